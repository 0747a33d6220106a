/- THE HEAP over the pile (container/heap): up, down, Push, Pop, Fix, Remove. Conditions: the pile stands. -/
import Derived.Test.YtkdegjjenbbjfaaRnkC
namespace Go.Proofs.Ytkdegjjenbbjfaa.Ev
open Go

theorem HeapN.congr {L M : List It} {n : Nat} (H : HeapN L n) (e : ∀ k, k < n → atL M k = atL L k) : HeapN M n := by
  intro k h0 h1
  have hp : par k < k := by unfold par; omega
  unfold okAt
  rw [e k h1, e (par k) (by omega)]
  exact H k h0 h1
theorem split_last {L : List It} {n : Nat} (h : L.length = n + 1) : ∃ M x, L = M ++ [x] ∧ M.length = n ∧ x = atL L n := by
  have hne : L ≠ [] := by
    intro e
    rw [e] at h
    cases h
  refine ⟨L.dropLast, L.getLast hne, (List.dropLast_concat_getLast hne).symm, by simp [h], ?_⟩
  rw [List.getLast_eq_getElem, ← atL_get]
  · congr 1
    omega
  · omega
theorem atL_app {M : List It} {x : It} {k : Nat} (hk : k < M.length) : atL (M ++ [x]) k = atL M k := by simp [atL, List.getD, List.getElem?_append_left hk]
theorem atL_mem {L : List It} {k : Nat} (hk : k < L.length) : atL L k ∈ L := by
  rw [← atL_get hk]
  exact List.getElem_mem hk

section
variable {h : Heap} {lo pi mb : Nat} {p : Option Addr} {c : Nat} {L : List It} {K : Value → Heap → Prop} {i j : Nat}

theorem up62 {n : Nat} (hl : L.length < 100000) (hn : n ≤ L.length) : ∀ (j : Nat) {L' : List It} {h' : Heap}, Pile h' lo pi mb p c L' → L'.Perm L → UpW L' n j → j < n → Only (mb :: OwnB p) h h' → (∀ k, n ≤ k → atL L' k = atL L k) →
    (∀ h' L', Pile h' lo pi mb p c L' → L'.Perm L → HeapN L' n → (∀ k, n ≤ k → atL L' k = atL L k) → Only (mb :: OwnB p) h h' → K (.tuple #[]) h') → ∀ g, j < g → F62.wL0 g ⟨pi, 0, none⟩ (j : Int) h' K := by
  intro j
  induction j using Nat.strongRecOn with
  | _ j ih =>
    intro L' h' P hp U hj O hge hK g hg
    obtain ⟨g, rfl⟩ : ∃ g', g = g' + 1 := ⟨g - 1, by omega⟩
    have hlen := hp.length_eq
    unfold F62.wL0 F62.JL0
    refine ⟨by decide, ?_⟩
    by_cases h0 : j = 0
    · subst h0
      rw [show ((IntKind.wrap .i64 (Int.tdiv (IntKind.wrap .i64 (((0 : Nat) : Int) - (1 : Int))) (2 : Int))) == ((0 : Nat) : Int)) = true from rfl, bcase_true]
      exact hK h' L' P hp (U.done (Or.inl rfl)) hge O
    · have e : IntKind.wrap .i64 (Int.tdiv (IntKind.wrap .i64 ((j : Int) - (1 : Int))) (2 : Int)) = ((par j : Nat) : Int) := by
        rw [wrap_i64 (n := (j : Int) - 1) (by omega) (by omega), Int.tdiv_eq_ediv_of_nonneg (by omega)]
        unfold par
        rw [wrap_i64 (by omega) (by omega)]
        omega
      have hpj : par j < j := by unfold par; omega
      rw [e, show (((par j : Nat) : Int) == (j : Int)) = false by simp; omega, bcase_false]
      refine less87 P (by omega) (by omega) fun h1 P1 O1 => ldB_of rfl ?_
      cases hb : bet (atL L' j) (atL L' (par j)) with
      | false =>
        rw [Bool.not_false, bcase_true]
        exact hK h1 L' P1 hp (U.done (Or.inr hb)) hge (O.trans O1 (by simp))
      | true =>
        rw [Bool.not_true, bcase_false]
        refine swap90 P1 (by omega) (by omega) fun h2 P2 O2 => ⟨rfl, ?_⟩
        refine ih (par j) hpj P2 ((swapL_perm (by omega) (by omega)).trans hp) (U.step (by omega) hj (by omega) hb) (by omega) ((O.trans O1 (by simp)).trans O2 fun b hb _ => hb) (fun k hk => ?_) hK g (by omega)
        rw [atL_swap (by omega) (by omega), if_neg (by omega), if_neg (by omega)]
        exact hge k hk
theorem up_call {n : Nat} (P : Pile h lo pi mb p c L) (hl : L.length < 100000) (hn : n ≤ L.length) (U : UpW L n j) (hj : j < n)
    (hK : ∀ h' L', Pile h' lo pi mb p c L' → L'.Perm L → HeapN L' n → (∀ k, n ≤ k → atL L' k = atL L k) → Only (mb :: OwnB p) h h' → K (.tuple #[]) h') :
    CallsH Try.prog 62 [.iface 94 (.pointer (some ⟨pi, 0, none⟩)), .int .i64 (j : Int)] h K := by
  apply F62.spec
  unfold F62.w F62.J0
  exact ⟨j + 1, up62 hl hn j P (List.Perm.refl _) U hj (Only.refl _ _) (fun _ _ => rfl) hK (j + 1) (by omega)⟩

theorem down64 {n i0 : Nat} (hl : L.length < 100000) (hn : n ≤ L.length)
    (hK : ∀ h' L' mv, Pile h' lo pi mb p c L' → L'.Perm L → (mv = true → HeapN L' n) → (mv = false → UpW L' n i0) → (∀ k, n ≤ k → atL L' k = atL L k) → Only (mb :: OwnB p) h h' → K (.bool mv) h') :
    ∀ (d i : Nat) {L' : List It} {h' : Heap}, n - i ≤ d → Pile h' lo pi mb p c L' → L'.Perm L → DownW L' n i0 i → i ≤ L.length → Only (mb :: OwnB p) h h' → (∀ k, n ≤ k → atL L' k = atL L k) → F64.wL2 (d + 1) ⟨pi, 0, none⟩ (i0 : Int) (n : Int) (i : Int) h' K := by
  intro d
  induction d with
  | zero =>
    intro i L' h' hd P hp D hi O hge
    unfold F64.wL2 F64.JL2
    have e1 : IntKind.wrap .i64 ((IntKind.wrap .i64 ((2 : Int) * (i : Int))) + (1 : Int)) = ((2 * i + 1 : Nat) : Int) := by
      rw [wrap_i64 (n := (2 : Int) * (i : Int)) (by omega) (by omega), wrap_i64 (by omega) (by omega)]
      omega
    rw [e1, decide_eq_true (by omega), bcase_true]
    unfold F64.wk11 F64.Jk11
    obtain ⟨d1, d2⟩ := D.done (fun k h0 h1 hk => by unfold par at hk; omega)
    have le := D.le
    refine hK h' L' _ P hp (fun e => d1 ?_) (fun e => d2 ?_) hge O
    · have := of_decide_eq_true e
      omega
    · have := of_decide_eq_false e
      omega
  | succ d ih =>
    intro i L' h' hd P hp D hi O hge
    have hlen := hp.length_eq
    have le := D.le
    unfold F64.wL2 F64.JL2
    have e1 : IntKind.wrap .i64 ((IntKind.wrap .i64 ((2 : Int) * (i : Int))) + (1 : Int)) = ((2 * i + 1 : Nat) : Int) := by
      rw [wrap_i64 (n := (2 : Int) * (i : Int)) (by omega) (by omega), wrap_i64 (by omega) (by omega)]
      omega
    rw [e1]
    have stop : ∀ h', Pile h' lo pi mb p c L' → Only (mb :: OwnB p) h h' → (∀ k, 0 < k → k < n → par k = i → okAt L' k) → F64.wk11 (i0 : Int) (i : Int) h' K := by
      intro h' P' O' hc
      unfold F64.wk11 F64.Jk11
      obtain ⟨d1, d2⟩ := D.done hc
      refine hK h' L' _ P' hp (fun e => d1 ?_) (fun e => d2 ?_) hge O'
      · have := of_decide_eq_true e
        omega
      · have := of_decide_eq_false e
        omega
    by_cases hj1 : n ≤ 2 * i + 1
    · rw [decide_eq_true (by omega), bcase_true]
      exact stop h' P O (fun k h0 h1 hk => by unfold par at hk; omega)
    · rw [decide_eq_false (by omega), bcase_false, decide_eq_false (by omega), bcase_false]
      rw [show IntKind.wrap .i64 (((2 * i + 1 : Nat) : Int) + (1 : Int)) = ((2 * i + 2 : Nat) : Int) by rw [wrap_i64 (by omega) (by omega)]; omega]
      have go : ∀ (jj : Nat) (h' : Heap), Pile h' lo pi mb p c L' → Only (mb :: OwnB p) h h' → jj < n → 0 < jj → par jj = i → (∀ k, 0 < k → k < n → par k = i → bet (atL L' k) (atL L' jj) = false) →
          F64.wk8 (fun x0 x1 x2 x7 h => F64.wL2 (d + 1) x0 x1 x2 x7 h K) ⟨pi, 0, none⟩ (i0 : Int) (n : Int) (i : Int) (jj : Int) h' K := by
        intro jj h' P' O' hjn hj0 hpj hc
        have hij : i < jj := by rw [← hpj]; unfold par; omega
        unfold F64.wk8 F64.Jk8
        refine less87 P' (by omega) (by omega) fun h1 P1 O1 => ldB_of rfl ?_
        cases hb : bet (atL L' jj) (atL L' i) with
        | false =>
          rw [Bool.not_false, bcase_true]
          refine stop h1 P1 (O'.trans O1 (by simp)) fun k h0 h1 hk => ?_
          unfold okAt
          rw [hk]
          exact bet_ntrans (hc k h0 h1 hk) hb
        | true =>
          rw [Bool.not_true, bcase_false]
          refine swap90 P1 (by omega) (by omega) fun h2 P2 O2 => ⟨rfl, ?_⟩
          refine ih jj (by omega) P2 ((swapL_perm (by omega) (by omega)).trans hp) (D.step hjn (by omega) hj0 hpj hb hc) (by omega) ((O'.trans O1 (by simp)).trans O2 fun b hb _ => hb) (fun k hk => ?_)
          rw [atL_swap (by omega) (by omega), if_neg (by omega), if_neg (by omega)]
          exact hge k hk
      by_cases hj2 : 2 * i + 2 < n
      · rw [decide_eq_true (by omega), bcase_true]
        refine less87 P (by omega) (by omega) fun h1 P1 O1 => ldB_of rfl ?_
        cases hb : bet (atL L' (2 * i + 2)) (atL L' (2 * i + 1)) with
        | true =>
          rw [bcase_true]
          refine go (2 * i + 2) h1 P1 (O.trans O1 (by simp)) hj2 (by omega) (by unfold par; omega) fun k h0 h1 hk => ?_
          have : k = 2 * i + 1 ∨ k = 2 * i + 2 := by unfold par at hk; omega
          rcases this with rfl | rfl
          · exact bet_asym hb
          · exact bet_self _
        | false =>
          rw [bcase_false]
          refine go (2 * i + 1) h1 P1 (O.trans O1 (by simp)) (by omega) (by omega) (by unfold par; omega) fun k h0 h1 hk => ?_
          have : k = 2 * i + 1 ∨ k = 2 * i + 2 := by unfold par at hk; omega
          rcases this with rfl | rfl
          · exact bet_self _
          · exact hb
      · rw [decide_eq_false (by omega), bcase_false]
        refine go (2 * i + 1) h' P O (by omega) (by omega) (by unfold par; omega) fun k h0 h1 hk => ?_
        have : k = 2 * i + 1 := by unfold par at hk; omega
        subst this
        exact bet_self _
theorem down_call {n i0 : Nat} (P : Pile h lo pi mb p c L) (hl : L.length < 100000) (hn : n ≤ L.length) (hi : i0 ≤ L.length) (D : DownW L n i0 i0)
    (hK : ∀ h' L' mv, Pile h' lo pi mb p c L' → L'.Perm L → (mv = true → HeapN L' n) → (mv = false → UpW L' n i0) → (∀ k, n ≤ k → atL L' k = atL L k) → Only (mb :: OwnB p) h h' → K (.bool mv) h') :
    CallsH Try.prog 64 [.iface 94 (.pointer (some ⟨pi, 0, none⟩)), .int .i64 (i0 : Int), .int .i64 (n : Int)] h K := by
  apply F64.spec
  unfold F64.w F64.J0 F64.wk2 F64.Jk2
  exact ⟨n + 1, down64 hl hn hK n i0 (by omega) P (List.Perm.refl _) D hi (Only.refl _ _) fun _ _ => rfl⟩

theorem fix53 (P : Pile h lo pi mb p c L) (hl : L.length < 100000) (hi : i < L.length) (D : DownW L L.length i i)
    (hK : ∀ h' L', Pile h' lo pi mb p c L' → L'.Perm L → HeapN L' L'.length → Only (mb :: OwnB p) h h' → K (.tuple #[]) h') :
    CallsH Try.prog 53 [.iface 94 (.pointer (some ⟨pi, 0, none⟩)), .int .i64 (i : Int)] h K := by
  apply F53.spec
  unfold F53.w F53.J0
  refine len52 P (ldI_of rfl (down_call P hl (Nat.le_refl _) (by omega) D fun h1 L1 mv P1 p1 m1 m2 ge O1 => ldB_of rfl ?_))
  have hlen := p1.length_eq
  cases mv with
  | true =>
    rw [Bool.not_true, bcase_false]
    exact hK h1 L1 P1 p1 (by rw [hlen]; exact m1 rfl) O1
  | false =>
    rw [Bool.not_false, bcase_true]
    refine up_call P1 (by omega) (by omega) (m2 rfl) hi fun h2 L2 P2 p2 H2 _ O2 => ⟨rfl, ?_⟩
    have hlen2 := p2.length_eq
    exact hK h2 L2 P2 (p2.trans p1) (by rw [hlen2, hlen]; exact H2) (O1.trans O2 fun b hb _ => hb)
theorem push49 {x : It} (P : Pile h lo pi mb p c L) (H : HeapN L L.length) (hx : ∀ k, k < L.length → (atL L k).1 ≠ x.1) (hl : L.length < 90000) (hlo : lo ≤ h.size)
    (hK : ∀ h' p' c' L', Pile h' lo pi mb p' c' L' → L'.Perm (L ++ [x]) → HeapN L' L'.length → Only (pi :: mb :: OwnB p) h h' → (∀ b ∈ OwnB p', b ∈ OwnB p ∨ h.size ≤ b) → K (.tuple #[]) h') :
    CallsH Try.prog 49 [.iface 94 (.pointer (some ⟨pi, 0, none⟩)), .iface 57 (.agg #[.int .i64 x.1, .int .i64 x.2])] h K := by
  apply F49.spec
  unfold F49.w F49.J0
  refine push89 P hx (by omega) hlo fun h1 p1 c1 P1 O1 hp1 => ⟨rfl, len52 P1 (ldI_of rfl ?_)⟩
  have hln : (L ++ [x]).length = L.length + 1 := by simp
  rw [show IntKind.wrap .i64 (((L ++ [x]).length : Int) - (1 : Int)) = (L.length : Int) by rw [wrap_i64 (by omega) (by omega)]; omega]
  refine up_call (n := L.length + 1) P1 (by omega) (by omega) (up_begin H) (by omega) fun h2 L2 P2 p2 H2 _ O2 => ⟨rfl, ?_⟩
  have hlen2 := p2.length_eq
  refine hK h2 p1 c1 L2 P2 p2 (by rw [hlen2, hln]; exact H2) (O1.trans O2 fun b hb hlt => ?_) hp1
  simp only [List.mem_cons] at hb ⊢
  rcases hb with hb | hb
  · exact Or.inr (Or.inl hb)
  · rcases hp1 b hb with h3 | h3
    · exact Or.inr (Or.inr h3)
    · omega
/-- the last one goes, once the others are a heap -/
theorem popped {x : It} {h1 : Heap} {L1 : List It} (P1 : Pile h1 lo pi mb p c L1) (hlen : L1.length = L.length) (hL : L.length < 100000) (p1 : L1.Perm L) (H1 : HeapN L1 (L.length - 1)) (hne : 0 < L.length) (hx : atL L1 (L.length - 1) = x) (O1 : Only (mb :: OwnB p) h h1)
    (hK : ∀ h' M, Pile h' lo pi mb p c M → (M ++ [x]).Perm L → HeapN M M.length → Only (pi :: mb :: OwnB p) h h' → K (.iface 57 (.agg #[.int .i64 x.1, .int .i64 x.2])) h') :
    CallsH Try.prog 88 [.pointer (some ⟨pi, 0, none⟩)] h1 (fun v h2 => ldV (some v) (fun v' => K v' h2)) := by
  obtain ⟨M, y, e, hM, hy⟩ := split_last (L := L1) (n := L.length - 1) (by omega)
  rw [hx] at hy
  subst hy
  subst e
  refine pop88 P1 (by omega) fun h2 P2 O2 => ?_
  rw [ldV_some]
  refine hK h2 M P2 p1 (HeapN.congr (L := M ++ [y]) (by rw [hM]; exact H1) fun k hk => (atL_app hk).symm) ((O1.mono (T := pi :: mb :: OwnB p) (by simp +contextual)).trans O2 (by simp +contextual))
theorem pop63 (P : Pile h lo pi mb p c L) (H : HeapN L L.length) (hl : L.length < 100000) (hne : 0 < L.length)
    (hK : ∀ h' M, Pile h' lo pi mb p c M → (M ++ [atL L 0]).Perm L → HeapN M M.length → Only (pi :: mb :: OwnB p) h h' → K (.iface 57 (.agg #[.int .i64 (atL L 0).1, .int .i64 (atL L 0).2])) h') :
    CallsH Try.prog 63 [.iface 94 (.pointer (some ⟨pi, 0, none⟩))] h K := by
  apply F63.spec
  unfold F63.w F63.J0
  refine len52 P (ldI_of rfl ?_)
  rw [show IntKind.wrap .i64 ((L.length : Int) - (1 : Int)) = ((L.length - 1 : Nat) : Int) by rw [wrap_i64 (by omega) (by omega)]; omega]
  rw [show (0 : Int) = ((0 : Nat) : Int) from rfl]
  refine swap90 P (by omega) (by omega) fun h1 P1 O1 => ⟨rfl, ?_⟩
  have sw := atL_swap (L := L) (i := 0) (j := L.length - 1) (by omega) (by omega)
  have D : DownW (swapL L 0 (L.length - 1)) (L.length - 1) 0 0 := by
    refine ⟨fun k h0 h1 hk hk2 => ?_, fun k h0 h1 hk hi => by omega, Nat.le_refl _⟩
    have hp : par k < k := by unfold par; omega
    unfold okAt
    rw [sw k, sw (par k), if_neg (by omega), if_neg (by omega), if_neg (by omega), if_neg (by omega)]
    exact H k h0 (by omega)
  refine down_call P1 (by rw [swapL_len]; exact hl) (by rw [swapL_len]; omega) (by omega) D fun h2 L2 mv P2 p2 m1 m2 ge O2 => ldB_of rfl ?_
  have hlen := p2.length_eq
  rw [swapL_len] at hlen
  have H2 : HeapN L2 (L.length - 1) := by
    cases mv with
    | true => exact m1 rfl
    | false => exact (m2 rfl).done (Or.inl rfl)
  refine popped (x := atL L 0) P2 hlen hl (p2.trans (swapL_perm (by omega) (by omega))) H2 hne ?_ (O1.trans O2 fun b hb _ => hb) hK
  rw [ge _ (Nat.le_refl _), sw, if_pos rfl]
theorem remove54 (P : Pile h lo pi mb p c L) (H : HeapN L L.length) (hl : L.length < 100000) (hi : i < L.length)
    (hK : ∀ h' M, Pile h' lo pi mb p c M → (M ++ [atL L i]).Perm L → HeapN M M.length → Only (pi :: mb :: OwnB p) h h' → K (.iface 57 (.agg #[.int .i64 (atL L i).1, .int .i64 (atL L i).2])) h') :
    CallsH Try.prog 54 [.iface 94 (.pointer (some ⟨pi, 0, none⟩)), .int .i64 (i : Int)] h K := by
  apply F54.spec
  unfold F54.w F54.J0
  refine len52 P (ldI_of rfl ?_)
  rw [show IntKind.wrap .i64 ((L.length : Int) - (1 : Int)) = ((L.length - 1 : Nat) : Int) by rw [wrap_i64 (by omega) (by omega)]; omega]
  by_cases hin : L.length - 1 = i
  · subst hin
    rw [bne_self_eq_false, bcase_false]
    exact popped P rfl hl (List.Perm.refl _) (fun k h0 h1 => H k h0 (by omega)) (by omega) rfl (Only.refl _ _) hK
  · rw [show (((L.length - 1 : Nat) : Int) != (i : Int)) = true by simp; omega, bcase_true]
    refine swap90 P hi (by omega) fun h1 P1 O1 => ⟨rfl, ?_⟩
    have sw := atL_swap (L := L) (i := i) (j := L.length - 1) hi (by omega)
    have D : DownW (swapL L i (L.length - 1)) (L.length - 1) i i := down_begin (L := L) (fun k h0 h1 => H k h0 (by omega)) (fun k hk hki => by rw [sw, if_neg (by omega), if_neg hki]) (by omega)
    have p0 : (swapL L i (L.length - 1)).Perm L := swapL_perm hi (by omega)
    refine down_call P1 (by rw [swapL_len]; exact hl) (by rw [swapL_len]; omega) (by rw [swapL_len]; omega) D fun h2 L2 mv P2 p2 m1 m2 ge O2 => ldB_of rfl ?_
    have hlen := p2.length_eq
    rw [swapL_len] at hlen
    have hat : atL L2 (L.length - 1) = atL L i := by rw [ge _ (Nat.le_refl _), sw, if_pos rfl]
    cases mv with
    | true =>
      rw [Bool.not_true, bcase_false]
      exact popped P2 hlen hl (p2.trans p0) (m1 rfl) (by omega) hat (O1.trans O2 fun b hb _ => hb) hK
    | false =>
      rw [Bool.not_false, bcase_true]
      refine up_call P2 (by omega) (by omega) (m2 rfl) (by omega) fun h3 L3 P3 p3 H3 ge3 O3 => ⟨rfl, ?_⟩
      have hlen3 := p3.length_eq
      exact popped P3 (by omega) hl ((p3.trans p2).trans p0) H3 (by omega) ((ge3 _ (Nat.le_refl _)).trans hat) ((O1.trans O2 fun b hb _ => hb).trans O3 fun b hb _ => hb) hK
end
end Go.Proofs.Ytkdegjjenbbjfaa.Ev
