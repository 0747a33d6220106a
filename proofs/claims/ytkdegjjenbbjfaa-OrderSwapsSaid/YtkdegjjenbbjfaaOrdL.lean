/- THE LAW OF SWAPS. Conditions: none. -/
import Derived.Test.YtkdegjjenbbjfaaOrdC
import Derived.Test.YtkdegjjenbbjfaaL4F
namespace Go.Proofs.Ytkdegjjenbbjfaa.Ev
open Go

theorem Only.nil {h h' h'' : Heap} {S : List Nat} (A : Only [] h h') (B : Only S h' h'') (hS : ∀ b ∈ S, h.size ≤ b) : Only [] h h'' :=
  A.trans B fun b hb hl => absurd (hS b hb) (by omega)
theorem range_getD {k : IntKind} {zs : List Int} (hr : ∀ z ∈ zs, k.min ≤ z ∧ z ≤ k.max) {i : Nat} (hi : i < zs.length) : k.min ≤ zs.getD i 0 ∧ zs.getD i 0 ≤ k.max := by
  apply hr
  rw [show zs.getD i 0 = zs[i] by simp [List.getD, hi]]
  exact List.getElem_mem hi
theorem tmod_fit {z : Int} (h : IntKind.min .u8 ≤ z ∧ z ≤ IntKind.max .u8) {d : Int} (hd : 0 < d) : 0 ≤ z.tmod d ∧ z.tmod d < d := by
  have h0 : 0 ≤ z := h.1
  rw [Int.tmod_eq_emod_of_nonneg h0]
  exact ⟨Int.emod_nonneg _ (by omega), Int.emod_lt_of_pos _ hd⟩

theorem same_loop {a b ca cb : Nat} {la lb : List Int} {h : Heap} {K : Value → Heap → Prop} (A : At h a (la.map (.int .i64))) (B : At h b (lb.map (.int .i64))) (hl : la.length = lb.length) (hm : la.length < 1000000)
    (hK : K (.bool (decide (la = lb))) h) : ∀ (m k : Nat), la.length - k < m → k ≤ la.length → (∀ i, i < k → la[i]? = lb[i]?) →
      F24.wL4 m (some ⟨a, 0, none⟩) la.length ca (some ⟨b, 0, none⟩) lb.length cb (k : Int) h K := by
  intro m
  induction m with
  | zero => intro k hm; omega
  | succ m ih =>
    intro k h1 hk he
    unfold F24.wL4 F24.JL4
    by_cases hlt : k < la.length
    · rw [decide_eq_true (by omega), bcase_true]
      simp only [ptrK_some, add_mk, Nat.zero_add, Nat.mul_one, Int.toNat_natCast, A.rd, B.rd]
      refine ⟨by omega, by omega, ldI_of (n := la[k]) (by simp [hlt]) ⟨by omega, by omega, ldI_of (n := lb[k]) (by simp [hl ▸ hlt]) ?_⟩⟩
      refine bcase_of (fun e => ?_) fun e => ?_
      · have : la ≠ lb := by
          intro e'
          subst e'
          simp at e
        rw [decide_eq_false this] at hK
        exact hK
      · rw [show IntKind.wrap .i64 ((k : Int) + 1) = ((k + 1 : Nat) : Int) by rw [wrap_i64 (by omega) (by omega)]; simp]
        refine ih (k + 1) (by omega) (by omega) fun i hi => ?_
        by_cases h' : i < k
        · exact he i h'
        · obtain rfl : i = k := by omega
          have : la[i] = lb[i]'(hl ▸ hlt) := by simpa using e
          rw [List.getElem?_eq_getElem hlt, List.getElem?_eq_getElem (hl ▸ hlt), this]
    · rw [decide_eq_false (by omega), bcase_false]
      have : la = lb := by
        apply List.ext_getElem?
        intro i
        by_cases h' : i < k
        · exact he i h'
        · rw [List.getElem?_eq_none (by omega), List.getElem?_eq_none (by omega)]
      rw [decide_eq_true this] at hK
      exact hK
theorem same_spec {a b ca cb n : Nat} {la lb : List Int} {h : Heap} {K : Value → Heap → Prop} (A : At h a (la.map (.int .i64))) (B : At h b (lb.map (.int .i64))) (ha : la.length = n) (hb : lb.length = n) (hm : n < 1000000)
    (hK : K (.bool (decide (la = lb))) h) : CallsH Try.prog 24 [.slice (some ⟨a, 0, none⟩) n ca, .slice (some ⟨b, 0, none⟩) n cb] h K := by
  apply F24.spec
  unfold F24.w F24.J0
  rw [bne_self_eq_false, bcase_false]
  unfold F24.wk4 F24.Jk4
  have := same_loop (ca := ca) (cb := cb) A B (by omega) (by omega) hK (n + 1) 0 (by omega) (by omega) (by omega)
  rw [ha, hb] at this
  exact ⟨n + 1, this⟩

/-- levels and variables lead back to one another -/
def Inv (n : Nat) (f g : Nat → Nat) : Prop := ∀ i, i < n → f i < n ∧ g (f i) = i ∧ g i < n ∧ f (g i) = i
theorem Inv.fill (n : Nat) : Inv n (fill n) (Ev.fill n) := fun i hi => by simp [Ev.fill, hi]
theorem Inv.sw {n k : Nat} {f g : Nat → Nat} (H : Inv n f g) (hk : k + 1 < n) : Inv n (sw k f) (swl k f g) := by
  obtain ⟨a1, a2, a3, a4⟩ := H k (by omega)
  obtain ⟨b1, b2, b3, b4⟩ := H (k + 1) hk
  have hne : f k ≠ f (k + 1) := fun e => by rw [e, b2] at a2; omega
  intro i hi
  obtain ⟨c1, c2, c3, c4⟩ := H i hi
  refine ⟨?_, ?_, ?_, ?_⟩
  · unfold Ev.sw upd
    split
    · exact a1
    · split
      · exact b1
      · exact c1
  · unfold Ev.sw swl upd
    by_cases h1 : i = k + 1
    · subst h1
      simp
    · by_cases h2 : i = k
      · subst h2
        simp [hne.symm]
      · have n1 : f i ≠ f k := fun e => by rw [e, a2] at c2; omega
        have n2 : f i ≠ f (k + 1) := fun e => by rw [e, b2] at c2; omega
        simp [h1, h2, n1, n2, c2]
  · unfold swl upd
    split
    · exact hk
    · split
      · omega
      · exact c3
  · unfold Ev.sw swl upd
    by_cases h1 : i = f k
    · subst h1
      simp
    · by_cases h2 : i = f (k + 1)
      · subst h2
        simp [hne.symm]
      · have n1 : g i ≠ k := fun e => by rw [e] at c4; exact h1 c4.symm
        have n2 : g i ≠ k + 1 := fun e => by rw [e] at c4; exact h2 c4.symm
        simp [h1, h2, n1, n2, c4]
theorem sw_sw (k : Nat) (f : Nat → Nat) : sw k (sw k f) = f := by
  funext i
  unfold sw upd
  by_cases h1 : i = k + 1
  · subst h1; simp
  · by_cases h2 : i = k
    · subst h2; simp
    · simp [h1, h2]
def row (n : Nat) (f : Nat → Nat) : List Int := (List.range n).map fun i => (f i : Int)
theorem row_len (n : Nat) (f : Nat → Nat) : (row n f).length = n := by simp [row]
theorem row_ne {n k : Nat} {f g : Nat → Nat} (H : Inv n f g) (hk : k + 1 < n) : row n (sw k f) ≠ row n f := by
  intro e
  have e' := congrArg (fun l => l[k]?) e
  simp [row, show k < n by omega, sw, upd] at e'
  obtain ⟨_, a2, _, _⟩ := H k (by omega)
  obtain ⟨_, b2, _, _⟩ := H (k + 1) hk
  have e2 : f (k + 1) = f k := by omega
  rw [← e2, b2] at a2
  omega

theorem known4 {h : Heap} {K : Value → Heap → Prop} (hK : ∀ h', Only [] h h' → K (.bool true) h') : CallsH Try.prog 20 [] h K := by
  apply F20.spec
  unfold F20.w F20.J0
  refine ord_new (n := 3) (by decide) (by decide) fun b h1 A1 hb O1 => ?_
  simp only [ldP_some, Option.isNone_some, Bool.not_false, bcase_true]
  refine ord_swap (k := 0) A1 (by decide) (by decide) (by decide) fun h2 A2 O2 => ?_
  have P2 := O1.nil O2 (by simpa using hb)
  refine ldI_of rfl ?_
  rw [show ((0 : Int) == 0) = true from rfl, bcase_true]
  refine ord_var (k := 0) A2 (by decide) (by decide) (ldI_of rfl ?_)
  rw [show (((sw 0 (fill 3) 0 : Nat) : Int) == 1) = true from rfl, bcase_true]
  refine ord_level (k := 0) A2 (by decide) (by decide) (ldI_of rfl ?_)
  rw [show (((swl 0 (fill 3) (fill 3) 0 : Nat) : Int) == 1) = true from rfl, bcase_true]
  refine ord_swap_out A2 (by decide) (Or.inr (by decide)) (ldI_of rfl ?_)
  rw [show ((40 : Int) == 40) = true from rfl, bcase_true]
  refine newK_at fun h3 A3 O3 z3 => ?_
  have B3 := A2.only O3 (by simp)
  have P3 := P2.nil O3 (by simp)
  have hx := B3.lt
  have lt2 := A2.lt
  generalize h2.size = x at *
  refine F45.spec _ _ _ _ _ _ ?_
  unfold F45.w F45.J0
  simp only [add_mk, Nat.zero_add]
  refine ldI_of B3.rd0 ?_
  rw [show (((3 : Nat) : Int) != ((3 : Nat) : Int)) = false from rfl, bcase_false]
  refine newK_at fun h4 A4 O4 z4 => ?_
  have B4 := B3.only O4 (by simp)
  have C4 := A3.only O4 (by simp)
  have P4 := P3.nil O4 (by simp)
  have lt3 := A3.lt
  have hs := P3.size
  unfold F45.wk5 F45.Jk5
  refine ⟨2, ?_⟩
  unfold F45.wL5 F45.JL5
  simp only [ptrK_some, add_mk, Nat.zero_add, Nat.mul_one, Nat.add_zero, C4.rd, A4.rd, B4.rd0]
  rw [show decide ((0 : Int) < ((3 : Nat) : Int)) = true from rfl, bcase_true]
  refine ⟨by decide, by decide, ldI_of (n := 0) rfl ?_⟩
  rw [show decide ((0 : Int) < 0) = false from rfl, bcase_false, ldI_some]
  rw [show decide ((0 : Int) ≥ ((3 : Nat) : Int)) = false from rfl, bcase_false]
  refine ⟨by decide, by decide, ldB_of (n := false) rfl ?_⟩
  rw [bcase_false]
  refine ⟨by decide, by decide, stK_at A4 (by decide) rfl fun h5 A5 O5 _ => ?_⟩
  have B5 := B4.only O5 (by simp; omega)
  have C5 := C4.only O5 (by simp; omega)
  have P5 := P4.nil O5 (by simp; omega)
  unfold F45.wL5 F45.JL5
  simp only [ptrK_some, add_mk, Nat.zero_add, Nat.mul_one, C5.rd, A5.rd, B5.rd0]
  rw [show IntKind.wrap .i64 ((0 : Int) + 1) = 1 from rfl, show decide ((1 : Int) < ((3 : Nat) : Int)) = true from rfl, bcase_true]
  refine ⟨by decide, by decide, ldI_of (n := 0) rfl ?_⟩
  rw [show decide ((0 : Int) < 0) = false from rfl, bcase_false, ldI_some]
  rw [show decide ((0 : Int) ≥ ((3 : Nat) : Int)) = false from rfl, bcase_false]
  refine ⟨by decide, by decide, ldB_of (n := true) rfl ?_⟩
  rw [bcase_true, ldI_some, show ((40 : Int) == 40) = true from rfl, bcase_true]
  refine ord_len B5 (ldI_of rfl ?_)
  rw [show (((3 : Nat) : Int) == 3) = true from rfl, bcase_true]
  refine ord_var_out B5 (Or.inr (by decide)) (ldI_of rfl ?_)
  exact hK h5 P5

theorem swaps_loop {h0 : Heap} {p : Option Addr} {cap b n : Nat} {zs : List Int} (hr : ∀ z ∈ zs, IntKind.min .u8 ≤ z ∧ z ≤ IntKind.max .u8) (hl : zs.length ≤ 60) (hI : Ints h0 .u8 p zs)
    (s1 : h0.size ≤ b) (n1 : 1 ≤ n) (n8 : n ≤ 8) :
    ∀ (m i : Nat) (f g : Nat → Nat) (h : Heap), zs.length - i < m → i ≤ zs.length → Inv n f g → OrdIs h b n f g → Only [] h0 h →
      F5.wL8 m p zs.length cap (n : Int) (some ⟨b, 0, none⟩) (i : Int) h (Lawful h0) := by
  intro m
  induction m with
  | zero => intro i f g h hn; omega
  | succ m ih =>
    intro i f g h hn hi V A O
    have hS : ∀ x ∈ [b], h0.size ≤ x := by simp [s1]
    unfold F5.wL8 F5.JL8
    by_cases hlt : i < zs.length
    · rw [decide_eq_true (by omega), bcase_true]
      obtain ⟨a, rfl, ha⟩ := hI.only O (by simp) i hlt
      have hz := range_getD hr hlt
      have z0 : 0 ≤ zs.getD i 0 := hz.1
      have z1 : zs.getD i 0 ≤ 255 := hz.2
      obtain ⟨w0, w1⟩ := tmod_fit hz (by omega : (0 : Int) < n)
      refine ⟨by omega, by omega, ?_⟩
      rw [Int.toNat_natCast, Nat.mul_one, ha, ldI_some, wrap_i64 (n := zs.getD i 0) (by omega) (by omega)]
      obtain ⟨k, hk⟩ : ∃ k : Nat, (zs.getD i 0).tmod n = k := ⟨((zs.getD i 0).tmod n).toNat, by omega⟩
      rw [hk] at w0 w1 ⊢
      have hs1 : IntKind.wrap .i64 ((i : Int) + 1) = ((i + 1 : Nat) : Int) := by rw [wrap_i64 (by omega) (by omega)]; simp
      -- the variables behind the turn
      have hend : ∀ (f' g' : Nat → Nat) (h' : Heap), Inv n f' g' → OrdIs h' b n f' g' → Only [] h0 h' →
          F5.wk18 (fun x1p x1l x1c x5 x6 x7 h => F5.wL8 m x1p x1l x1c x5 x6 x7 h (Lawful h0)) (some a) zs.length cap (n : Int) (some ⟨b, 0, none⟩) (i : Int) 0 h' (Lawful h0) := by
        intro f' g' h' V' A' O'
        unfold F5.wk18 F5.Jk18
        have : ∀ (t v : Nat), n - v < t → v ≤ n → F5.wL18 (fun x1p x1l x1c x5 x6 x7 h => F5.wL8 m x1p x1l x1c x5 x6 x7 h (Lawful h0)) t (some a) zs.length cap (n : Int) (some ⟨b, 0, none⟩) (i : Int) (v : Int) h' (Lawful h0) := by
          intro t
          induction t with
          | zero => intro v hv; omega
          | succ t iht =>
            intro v hv hvn
            unfold F5.wL18 F5.JL18
            by_cases hvl : v < n
            · obtain ⟨_, _, v3, v4⟩ := V' v hvl
              rw [decide_eq_true (by omega), bcase_true]
              refine ord_level A' n8 hvl (ldI_of rfl (ord_var A' n8 v3 (ldI_of rfl ?_)))
              rw [v4, bne_self_eq_false, bcase_false, show IntKind.wrap .i64 ((v : Int) + 1) = ((v + 1 : Nat) : Int) by rw [wrap_i64 (by omega) (by omega)]; simp]
              exact iht (v + 1) (by omega) (by omega)
            · rw [decide_eq_false (by omega), bcase_false, hs1]
              exact ih (i + 1) f' g' h' (by omega) (by omega) V' A' O'
        exact ⟨n + 1, this (n + 1) 0 (by omega) (by omega)⟩
      refine ⟨by omega, ord_all A n8 fun x h1 X1 x1 O1 => ?_⟩
      have A1 := A.only O1 (by simp)
      have P1 := O.nil O1 (by simp)
      have bx : x ≠ b := by have := At.lt A; omega
      have X1 : At h1 x ((row n f).map (.int .i64)) := X1
      refine ldS_of rfl ?_
      rw [wrap_i64 (n := (n : Int) - 1) (by omega) (by omega)]
      by_cases hkn : k + 1 < n
      · refine ord_swap A1 n8 hkn (fun i hi => (V i hi).1) fun h2 A2 O2 => ldI_of rfl ?_
        have V2 := V.sw hkn
        have X2 := X1.only O2 (by simp [bx])
        have P2 := P1.nil O2 hS
        rw [decide_eq_true (by omega : (k : Int) < (n : Int) - 1)]
        rw [show (!((0 : Int) == 0) == true) = false from rfl, bcase_false, show ((0 : Int) == 0) = true from rfl, bcase_true]
        refine ord_swap A2 n8 hkn (fun i hi => (V2 i hi).1) fun h3 A3 O3 => ldI_of rfl ?_
        have V3 := V2.sw hkn
        have X3 := X2.only O3 (by simp [bx])
        have P3 := P2.nil O3 hS
        rw [show ((0 : Int) != 0) = false from rfl, bcase_false]
        rw [sw_sw] at A3 V3
        refine ord_all A3 n8 fun y h4 Y4 y4 O4 => ldS_of rfl ?_
        have A4 := A3.only O4 (by simp)
        have X4 := X3.only O4 (by simp)
        have P4 := P3.nil O4 (by simp)
        have Y4 : At h4 y ((row n f).map (.int .i64)) := Y4
        refine same_spec Y4 X4 (row_len n f) (row_len n f) (by omega) (ldB_of rfl ?_)
        rw [decide_eq_true rfl, Bool.not_true, bcase_false]
        refine ord_swap A4 n8 hkn (fun i hi => (V3 i hi).1) fun h5 A5 O5 => ldI_of rfl ?_
        have V5 := V3.sw hkn
        have X5 := X4.only O5 (by simp [bx])
        have P5 := P4.nil O5 hS
        rw [show ((0 : Int) != 0) = false from rfl, bcase_false]
        refine ord_all A5 n8 fun z h6 Z6 z6 O6 => ldS_of rfl ?_
        have A6 := A5.only O6 (by simp)
        have X6 := X5.only O6 (by simp)
        have P6 := P5.nil O6 (by simp)
        have Z6 : At h6 z ((row n (sw k f)).map (.int .i64)) := Z6
        refine same_spec Z6 X6 (row_len n _) (row_len n f) (by omega) (ldB_of rfl ?_)
        rw [decide_eq_false (row_ne V hkn), bcase_false]
        exact hend _ _ h6 V5 A6 P6
      · refine ord_swap_out A1 n8 (Or.inr (by omega)) (ldI_of rfl ?_)
        rw [decide_eq_false (by omega : ¬ (k : Int) < (n : Int) - 1)]
        rw [show ((40 : Int) == 0) = false from rfl, show (!(false == false)) = false from rfl, bcase_false, bcase_false]
        exact hend f g h1 V A1 P1
    · rw [decide_eq_false (by omega), bcase_false]
      exact ⟨rfl, O⟩

theorem swaps_law (h : Heap) (v : Int) (hv : IntKind.min .u8 ≤ v ∧ v ≤ IntKind.max .u8) (p : Option Addr) (c : Nat) (zs : List Int) (hI : Ints h .u8 p zs) (hr : ∀ z ∈ zs, IntKind.min .u8 ≤ z ∧ z ≤ IntKind.max .u8) (_ : (zs.length : Int) ≤ maxLen) :
    CallsH Try.prog 5 [.int .u8 v, .slice p zs.length c] h (Lawful h) := by
  apply F5.spec
  unfold F5.w F5.J0
  refine known4 fun h1 O1 => ?_
  simp only [ldB_some, Bool.not_true, bcase_false]
  refine bcase_of (fun _ => ⟨rfl, O1⟩) fun hl => ?_
  simp at hl
  obtain ⟨w0, w1⟩ := tmod_fit hv (by omega : (0 : Int) < 8)
  obtain ⟨k, hk⟩ : ∃ k : Nat, v.tmod 8 = k := ⟨(v.tmod 8).toNat, by omega⟩
  rw [hk] at w0 w1 ⊢
  rw [wrap_i64 (n := (k : Int)) (by omega) (by omega), show IntKind.wrap .i64 ((k : Int) + 1) = ((k + 1 : Nat) : Int) by rw [wrap_i64 (by omega) (by omega)]; simp]
  refine ⟨by decide, ord_new (by omega) (by omega) fun b h2 A2 hb O2 => ?_⟩
  simp only [ldP_some]
  have := O1.size
  unfold F5.wk8 F5.Jk8
  exact ⟨zs.length + 1, swaps_loop hr (by omega) hI (by omega) (by omega) (by omega) (zs.length + 1) 0 _ _ h2 (by omega) (by omega) (Inv.fill _) A2 (O1.nil O2 (by simp))⟩
end Go.Proofs.Ytkdegjjenbbjfaa.Ev
