/- THE LAW OF A DEQUE's LAST VALUE (DequeLast), its loops. Conditions: none. -/
import Derived.Test.YtipckkeaoncjiaaDeqL6
namespace Go.Proofs.Ytipckkeaoncjiaa.Ev
open Go

section
variable {h0 : Heap} {d m mc : Nat} {p : Option Addr} {cap : Nat} {ks : List Int}

theorem Sys.hand0 {base n : Nat} {cs : List Int} {T E : Nat} {q hand : List Int} {th : Nat → Option Dc} (S : Sys base n cs T E q hand none th) : hand = [] := by
  have := S.own
  cases this
  rfl
theorem mtD_le' (o : Option Dc) : mtD o ≤ 16 := by
  cases o with
  | none => simp [mtD]
  | some A => simp only [mtD]; omega
theorem cnt_step {N i j : Nat} (h1 : 1 ≤ N) (h4 : N ≤ 4) (hj : j < N) : (i + 1 + N - 1 - j) / N = (i + N - 1 - j) / N + if i % N = j then 1 else 0 := by
  have : N = 1 ∨ N = 2 ∨ N = 3 ∨ N = 4 := by omega
  rcases this with rfl | rfl | rfl | rfl <;> split <;> omega
theorem cnt_end {N L j : Nat} (h1 : 1 ≤ N) (h4 : N ≤ 4) (hj : j < N) : (L + 16 * N + N - 1 - j) / N = (L + N - 1 - j) / N + 16 := by
  have : N = 1 ∨ N = 2 ∨ N = 3 ∨ N = 4 := by omega
  rcases this with rfl | rfl | rfl | rfl <;> omega

theorem dlast_end {h : Heap} {g : Gl} (D : Lw h0 h d m mc g) (hk : g.k ≤ 10000) (hd : ∀ j, j < g.N → (g.A j).done = true) :
    F6.wk31 (some ⟨d, 0, none⟩) (cntOk g.A g.N : Int) h (Lawful h0) := by
  obtain ⟨l1, l2, l3⟩ := D.lo
  have S := D.sys
  rw [und_done (hd 0 (by have := D.pos; omega))] at S
  have hand := S.hand0
  have tot := D.tot
  have few := D.few
  have ends := S.ends
  rw [hand, List.append_nil] at tot
  have hM : ∀ x ∈ [m, mc], h0.size ≤ x := by simp [l2, l3]
  unfold F6.wk31 F6.Jk31
  refine stealrun D.dw S.ds (by omega) (fun e h2 o2 f2 W2 O2 => ⟨_, _, rfl, ?_⟩) fun x q' e h2 o2 f2 cs2 S2 A2 W2 O2 => ⟨_, _, rfl, ?_⟩
  · rw [e] at tot
    simp at tot
    rw [tot]
    exact ⟨rfl, D.base.nil O2 hM⟩
  · rw [e] at tot
    simp at tot
    rw [show cntOk g.A g.N = 0 by omega]
    exact ⟨rfl, D.base.nil O2 hM⟩

theorem dlast_count {g : Gl} (hk : g.k ≤ 10000) (hd : ∀ j, j < g.N → (g.A j).done = true) : ∀ (gas i : Nat) (h : Heap), g.N - i < gas → i ≤ g.N → Lw h0 h d m mc g →
    F6.wL24 gas (some ⟨d, 0, none⟩) g.sp g.N g.sc (cntOk g.A i : Int) (i : Int) h (Lawful h0) := by
  intro gas
  induction gas with
  | zero => intro i h hg; omega
  | succ gas ih =>
    intro i h hg hi D
    have hpos := D.pos
    have hcnt : ∀ j, cntOk g.A j ≤ j := by
      intro j
      induction j with
      | zero => exact Nat.le_refl _
      | succ j ihj =>
        simp only [cntOk]
        split <;> omega
    have hc := hcnt i
    unfold F6.wL24 F6.JL24
    by_cases hlt : i < g.N
    · rw [decide_eq_true (by omega), bcase_true]
      obtain ⟨a, ea, er⟩ := D.win.rd (j := i) (by simpa using hlt)
      rw [ea]
      refine ⟨by omega, by omega, ?_⟩
      rw [Int.toNat_natCast, Nat.mul_one, er]
      obtain ⟨act, -⟩ := D.act i hlt
      refine ldP_of (n := some ⟨(g.F i).1, 0, none⟩) (by simp [hlt]) (gotD_spec act ⟨_, _, rfl, ?_⟩)
      refine ⟨by omega, by omega, ?_⟩
      rw [er]
      refine ldP_of (n := some ⟨(g.F i).1, 0, none⟩) (by simp [hlt]) (doneD_spec act (ldB_of rfl ?_))
      rw [hd i hlt, Bool.not_true, bcase_false]
      rw [show IntKind.wrap .i64 ((i : Int) + 1) = ((i + 1 : Nat) : Int) by rw [wrap_i64 (by omega) (by omega)]; omega]
      have hnext := ih (i + 1) h (by omega) (by omega) D
      rw [ea] at hnext
      cases hgd : gotDB (g.A i) with
      | true =>
        have h42 := D.g42 i hlt hgd
        have hv : gotDV (g.A i) = 42 := by
          unfold gotDV
          unfold gotDB at hgd
          rw [if_pos hgd, h42]
        rw [bcase_true, hv, show ((42 : Int) != 42) = false from rfl, bcase_false, bcase_true]
        rw [show IntKind.wrap .i64 ((cntOk g.A i : Int) + 1) = (cntOk g.A (i + 1) : Int) by
          rw [wrap_i64 (by omega) (by omega)]
          simp [cntOk, hgd]]
        exact hnext
      | false =>
        rw [bcase_false, bcase_false]
        have : cntOk g.A (i + 1) = cntOk g.A i := by simp [cntOk, hgd]
        rw [this] at hnext
        exact hnext
    · rw [decide_eq_false (by omega), bcase_false]
      obtain rfl : i = g.N := by omega
      exact dlast_end D hk hd

theorem dlast_loop (hl : ks.length ≤ 80) (hI : Ints h0 .u8 p ks) (hg : ∀ z ∈ ks, IntKind.min .u8 ≤ z ∧ z ≤ IntKind.max .u8) {N : Nat} {sp : Option Addr} {sc : Nat} : ∀ (gas i : Nat) (g : Gl) (h : Heap), ks.length + 16 * N - i < gas → i ≤ ks.length + 16 * N → Lw h0 h d m mc g → g.N = N → g.sp = sp → g.sc = sc → g.k ≤ 10 + i →
    (∀ j, j < N → mtD (und (g.A j)) = 0 ∨ mtD (und (g.A j)) + (max i ks.length + N - 1 - j) / N ≤ 16 + (ks.length + N - 1 - j) / N) →
    F6.wL16 gas p ks.length cap (some ⟨d, 0, none⟩) sp N sc (i : Int) h (Lawful h0) := by
  intro gas
  induction gas with
  | zero => intro i g h hg'; omega
  | succ gas ih =>
    intro i g h hg' hi D eN es ec hk hm
    have hpos := D.pos
    rw [eN] at hpos
    unfold F6.wL16 F6.JL16
    rw [show IntKind.wrap .i64 ((ks.length : Int) + (IntKind.wrap .i64 ((16 : Int) * (N : Int)))) = ((ks.length + 16 * N : Nat) : Int) by
      rw [wrap_i64 (n := (16 : Int) * (N : Int)) (by omega) (by omega), wrap_i64 (by omega) (by omega)]
      omega]
    by_cases hlt : i < ks.length + 16 * N
    · rw [decide_eq_true (by omega), bcase_true]
      have step : ∀ k : Nat, k < N → (ks.length ≤ i → i % N = k) → F6.wk21 (fun x0p x0l x0c x6 x8p x8l x8c x10 h => F6.wL16 gas x0p x0l x0c x6 x8p x8l x8c x10 h (Lawful h0)) p ks.length cap (some ⟨d, 0, none⟩) sp N sc (i : Int) (k : Int) h (Lawful h0) := by
        intro k hk' hik
        unfold F6.wk21 F6.Jk21
        obtain ⟨a, ea, er⟩ := D.win.rd (j := k) (by rw [List.length_map, List.length_range]; omega)
        rw [es] at ea
        rw [ea]
        refine ⟨by omega, by omega, ?_⟩
        rw [Int.toNat_natCast, Nat.mul_one, er]
        refine ldP_of (n := some ⟨(g.F k).1, 0, none⟩) (by simp [eN, hk']) ?_
        refine last_step D (by omega) (by omega) fun h1 g1 b D1 eN1 es1 ec1 ek1 eA1 hm1 hd1 => ldB_of rfl ?_
        rw [show IntKind.wrap .i64 ((i : Int) + 1) = ((i + 1 : Nat) : Int) by rw [wrap_i64 (by omega) (by omega)]; omega]
        refine ea ▸ ih (i + 1) g1 h1 (by omega) (by omega) D1 (eN1.trans eN) (es1.trans es) (ec1.trans ec) (by omega) fun j hj => ?_
        have hmj := hm j hj
        by_cases hL : i < ks.length
        · rw [show max (i + 1) ks.length = ks.length by omega]
          rw [show max i ks.length = ks.length by omega] at hmj
          by_cases e : j = k
          · subst e
            by_cases h0' : mtD (und (g.A j)) = 0
            · rw [hd1 (last_done D (by omega) h0')]
              exact hmj
            · have := hm1 h0'
              omega
          · rw [eA1 j e]
            exact hmj
        · rw [show max (i + 1) ks.length = i + 1 by omega, cnt_step hpos.1 hpos.2 hj, hik (by omega)]
          rw [show max i ks.length = i by omega] at hmj
          by_cases e : j = k
          · subst e
            rw [if_pos rfl]
            by_cases h0' : mtD (und (g.A j)) = 0
            · rw [hd1 (last_done D (by omega) h0')]
              exact Or.inl h0'
            · have := hm1 h0'
              rcases hmj with h | h
              · exact absurd h h0'
              · exact Or.inr (by omega)
          · rw [if_neg (Ne.symm e), eA1 j e]
            exact hmj
      refine ⟨by omega, bcase_of (fun e => ?_) fun e => ?_⟩
      · have e := of_decide_eq_true e
        obtain ⟨a, rfl, ha⟩ := hI.only D.base (by simp) i (by omega)
        have hz := range_getD hg (show i < ks.length by omega)
        have hz0 : 0 ≤ ks.getD i 0 := hz.1
        have hz1 : ks.getD i 0 ≤ 255 := hz.2
        refine ⟨by omega, by omega, ?_⟩
        rw [Int.toNat_natCast, Nat.mul_one, ha, ldI_some]
        refine ⟨by omega, ?_⟩
        rw [wrap_i64 (by omega) (by omega), Int.tmod_eq_emod_of_nonneg hz0]
        have h3 := Int.emod_nonneg (ks.getD i 0) (by omega : (N : Int) ≠ 0)
        have h4 := Int.emod_lt_of_pos (ks.getD i 0) (by omega : (0 : Int) < (N : Int))
        obtain ⟨k, hk'⟩ : ∃ k : Nat, ks.getD i 0 % (N : Int) = k := ⟨(ks.getD i 0 % (N : Int)).toNat, by omega⟩
        rw [hk'] at h4 ⊢
        exact step k (by omega) (fun h => by omega)
      · rw [Int.tmod_eq_emod_of_nonneg (by omega), show (i : Int) % (N : Int) = ((i % N : Nat) : Int) from rfl]
        exact step (i % N) (Nat.mod_lt _ (by omega)) fun _ => rfl
    · rw [decide_eq_false (by omega), bcase_false]
      obtain rfl : i = ks.length + 16 * N := by omega
      unfold F6.wk22 F6.Jk22 F6.wk24 F6.Jk24
      have hd : ∀ j, j < g.N → (g.A j).done = true := fun j hj => by
        rw [eN] at hj
        refine last_done D (by omega) ?_
        rcases hm j hj with h | h
        · exact h
        · rw [show max (ks.length + 16 * N) ks.length = ks.length + 16 * N by omega, cnt_end hpos.1 hpos.2 hj] at h
          omega
      have := dlast_count (h0 := h0) (d := d) (m := m) (mc := mc) (g := g) (by omega) hd (g.N + 1) 0 h (by omega) (by omega) D
      rw [eN, es, ec] at this
      exact ⟨N + 1, this⟩
theorem dlast_more (hl : ks.length ≤ 80) (hI : Ints h0 .u8 p ks) (hg : ∀ z ∈ ks, IntKind.min .u8 ≤ z ∧ z ≤ IntKind.max .u8) {x1 : Int} {t : Nat} (ht : IntKind.wrap .i64 (Int.tmod x1 4) = (t : Int)) (ht3 : t ≤ 3) : ∀ (gas j : Nat) (g : Gl) (h : Heap), t - j < gas → j ≤ t → Lw h0 h d m mc g → g.N = j + 1 → g.k ≤ 10 →
    F6.wL12 gas p ks.length cap x1 (some ⟨d, 0, none⟩) g.sp g.N g.sc (j : Int) h (Lawful h0) := by
  intro gas
  induction gas with
  | zero => intro j g h hg'; omega
  | succ gas ih =>
    intro j g h hg' hj D eN hk
    unfold F6.wL12 F6.JL12
    rw [ht]
    refine ⟨by decide, bcase_of (fun e => ?_) fun e => ?_⟩
    · have e := of_decide_eq_true e
      refine steal_dw fun f bx by_ h1 H1 O1 a b c a' b' c' n1 n2 n3 => ldP_of rfl (newK_at fun h2 A2 O2 z2 => ?_)
      have bsz := D.base.size
      have z1 := O1.size
      refine win_app (lo := h0.size) ((D.win.only O1 (by simp)).only O2 (by simp)) A2 (by omega) rfl (by omega) fun p' cc h3 Wn3 O3 hp => ?_
      rw [show IntKind.wrap .i64 ((j : Int) + 1) = ((j + 1 : Nat) : Int) by rw [wrap_i64 (by omega) (by omega)]; omega]
      have D3 := last_more D (by omega) H1 O1 a b c a' b' c' O2 O3 Wn3 hp
      exact ih (j + 1) _ h3 (by omega) (by omega) D3 (by dsimp only; omega) hk
    · have e := of_decide_eq_false e
      have hpos := D.pos
      unfold F6.wk15 F6.Jk15 F6.wk16 F6.Jk16
      refine ⟨ks.length + 16 * g.N + 1, dlast_loop hl hI hg (ks.length + 16 * g.N + 1) 0 g h (by omega) (by omega) D rfl rfl rfl (by omega) fun k hk' => Or.inr ?_⟩
      rw [show max 0 ks.length = ks.length by omega]
      have := mtD_le' (und (g.A k))
      omega
end

theorem dlast_law (h : Heap) (p : Option Addr) (c : Nat) (ks : List Int) (hI : Ints h .u8 p ks) (hg : ∀ z ∈ ks, IntKind.min .u8 ≤ z ∧ z ≤ IntKind.max .u8) (_ : (ks.length : Int) ≤ maxLen) (v : Int) (hv : IntKind.min .u8 ≤ v ∧ v ≤ IntKind.max .u8) :
    CallsH Try.prog 6 [.slice p ks.length c, .int .u8 v] h (Lawful h) := by
  apply F6.spec
  unfold F6.w F6.J0
  refine known8 fun h1 O1 => ldB_of rfl ?_
  rw [Bool.not_true, bcase_false]
  refine bcase_of (fun _ => ⟨rfl, O1⟩) fun hl => ?_
  simp at hl
  obtain ⟨w0, w1⟩ := tmod_fit hv (by omega : (0 : Int) < 4)
  obtain ⟨t, ht⟩ : ∃ t : Nat, v.tmod 4 = t := ⟨(v.tmod 4).toNat, by omega⟩
  refine cellsD_spec (by decide) (by decide) (ldI_of rfl ?_)
  rw [show (4 : Int) + 2 = ((6 : Nat) : Int) from rfl]
  refine new_spec fun m mc h2 M2 O2 hm hc => ldP_of rfl ?_
  rw [cellsFor_of (by decide)] at M2
  refine deqnew_spec (base := 0) (n := 4) M2 (by decide) (by decide) (by decide) (by decide) fun d h3 Q3 O3 hd3 => ⟨_, _, rfl, ?_⟩
  have M3 := M2.only O3 (by simp) (by simp)
  rw [show ((0 : Int) != 0) = false from rfl, bcase_false]
  have lm := M2.head.lt
  have lc := M2.body.lt
  have s1 := O1.size
  have W3 : DW h3 d m mc 0 4 (List.replicate 6 (0 : Int)) 0 0 := ⟨Q3, M3, by omega, by omega, by decide, by decide, by decide, by decide⟩
  have S3 : DS 0 4 (List.replicate 6 (0 : Int)) 0 [] := DS.empty (N := 6) (by decide) (zeros8 _ _) (zeros8 _ _)
  have lt3 := W3.lt
  have P3 := (O1.nil O2 (by simp)).nil O3 (by simp)
  have hM : ∀ x ∈ [m, mc], h.size ≤ x := by
    intro x hx
    simp at hx
    omega
  refine pushrun W3 S3 (by decide) fun h4 o4 f4 cs4 r4 _ _ W4 O4 => ⟨_, _, rfl, ?_⟩
  have S4 := r4 (by decide)
  have P4 := P3.nil O4 hM
  refine pop_dw fun f bx by_ h5 H5 O5 a b c' a' b' c'' n1 n2 n3 => ldP_of rfl (newK_at fun h6 A6 O6 z6 => ?_)
  have z4 := O4.size
  have z5 := O5.size
  unfold F6.wk12 F6.Jk12
  have hp := P4.size
  refine ⟨t + 1, dlast_more (by omega) hI hg (t := t) (by rw [ht, wrap_i64 (by omega) (by omega)]) (by omega) (t + 1) 0 ⟨1, fun _ => ⟨0, 0, 0, 4, false, false⟩, fun _ => (f, bx, by_), fun b => if b = d then 1 else if b = m then 2 else if b = mc then 2 else if b < h5.size then 20 else 4, cs4, 0, 1, [42], [], o4, f4, some ⟨h5.size, 0, none⟩, 1, 1⟩ h6 (by omega) (by omega) ⟨(W4.only O5 (by simp) (by simp) (by simp)).only O6 (by simp) (by simp) (by simp), ?_, fun j hj => ?_, rfl, ?_, fun j hj hgd => ?_, fun j hj hdn => ?_, ?_, ?_, ?_, ⟨by omega, by omega, by omega⟩, ⟨Nat.le_refl 1, (by decide : 1 ≤ 4)⟩, fun _ => Nat.le_refl _, Nat.le_refl _, (P4.nil O5 (by simp)).nil O6 (by simp)⟩ rfl (show 1 ≤ 10 by decide)⟩
  · have := S4.sys (base := 0) (n := 4)
    have := (own_begin this (Or.inr rfl)).2
    have e : thU (fun _ => (⟨0, 0, 0, 4, false, false⟩ : Dc)) 1 = fun _ => none := by
      funext i
      unfold thU
      rw [if_neg (by omega)]
    dsimp only
    rw [e]
    simpa [und] using this
  · dsimp only at hj ⊢
    obtain rfl : j = 0 := by omega
    refine ⟨H5.only O6 (by simp) (by simp) (by simp), fun x hx => ?_⟩
    simp at hx
    have : x < h5.size ∧ h4.size ≤ x := by omega
    dsimp only
    rw [if_neg (by omega), if_neg (by omega), if_neg (by omega), if_pos this.1]
    exact ⟨rfl, by omega, by omega⟩
  · simp
  · dsimp only at hgd
    rw [got_on rfl] at hgd
    cases hgd
  · cases hdn
  · refine ⟨rfl, Or.inr ⟨h5.size, 0, rfl, by omega, by omega, Or.inr ⟨[], [], rfl, Nat.le_refl _, rfl, ?_⟩⟩⟩
    simpa using A6
  · intro x hx
    simp [OwnB] at hx
    subst hx
    dsimp only
    rw [if_neg (by omega), if_neg (by omega), if_neg (by omega), if_neg (by omega)]
  · dsimp only
    refine ⟨if_pos rfl, ?_, ?_⟩
    · rw [if_neg (by omega), if_pos rfl]
    · rw [if_neg (by omega)]
      split
      · rfl
      · rw [if_pos rfl]
end Go.Proofs.Ytipckkeaoncjiaa.Ev
