/- THE DEQUE's WORLD: a thief's turn. Conditions: the world stands (Wd). -/
import Derived.Test.YtipckkeaoncjiaaDeqW
namespace Go.Proofs.Ytipckkeaoncjiaa.Ev
open Go

def mtD (o : Option Dc) : Nat := match o with | some A => 16 - A.ph | none => 0

section
variable {h0 h : Heap} {w d m mc n : Nat} {g : Gh} {K : Value → Heap → Prop} {A : Dc} {i : Nat}

theorem tne {tag : Nat → Nat} {a b : Nat} (h : tag a ≠ tag b) : a ≠ b := fun e => h (e ▸ rfl)
theorem ov_same {th : Nat → Option Dc} {ft : Nat → Nat × Nat × Nat} {i : Nat} {A A' : Dc} (hA : th i = some A) : (fun j => ovD (fset th i (some A') j) (ft j).1) = fun j => ovD (th j) (ft j).1 := by
  funext j
  by_cases e : j = i
  · subst e
    rw [fset_same, hA]
    rfl
  · rw [fset_other _ _ e]
theorem ov_none {th : Nat → Option Dc} {ft : Nat → Nat × Nat × Nat} {i : Nat} : (fun j => ovD (fset th i none j) (ft j).1) = fset (fun j => ovD (th j) (ft j).1) i (.pointer none) := by
  funext j
  by_cases e : j = i
  · subst e
    rw [fset_same, fset_same]
    rfl
  · rw [fset_other _ _ e, fset_other _ _ e]

theorem perm_len (D : Wd h0 h w d m mc n g) : g.took.length ≤ g.P := by
  have := D.perm.length_eq
  rw [valsD_len, List.length_append] at this
  omega

theorem steals_go (D : Wd h0 h w d m mc n g) (hk : g.k < 100000) (hi : i < 3) (hA : g.th i = some A)
    (hK : ∀ h' g', Wd h0 h' w d m mc n g' → g'.k = g.k → g'.o = g.o → (∀ j, j ≠ i → g'.th j = g.th j) → mtD (g'.th i) < mtD (some A) → K (.tuple #[]) h') :
    F26.wk2 ⟨w, 0, none⟩ (i : Int) h K := by
  obtain ⟨⟨act, tgs⟩, hst⟩ := D.thA i hi A hA
  obtain ⟨f, bx, by_, hft⟩ : ∃ f bx by_, g.ft i = (f, bx, by_) := ⟨_, _, _, rfl⟩
  rw [hft] at act tgs
  dsimp only at act tgs
  obtain ⟨t1, t2, t3, t4⟩ := D.tg
  have tf := (tgs f (by simp)).1
  have tx := (tgs bx (by simp)).1
  have ty := (tgs by_ (by simp)).1
  obtain ⟨ph0, ph1, hd, hp2⟩ := D.sys.thp hA
  have hn := D.dw.hn
  have hl := D.dw.hl
  have fE := D.few
  unfold F26.wk2 F26.Jk2
  simp only [add_mk, Nat.zero_add, Nat.add_zero, Int.toNat_natCast, Nat.mul_one]
  refine ⟨by omega, by omega, ldP_of (n := some ⟨f, 0, none⟩) (by rw [D.at_.rd, cellsW_get_th hi]; simp only [hA, ovD, hft]) ?_⟩
  rw [show IntKind.wrap .i64 ((i : Int) + 1) = ((i + 1 : Nat) : Int) by rw [wrap_i64 (by omega) (by omega)]; omega]
  refine step47 D.at_ D.dw act hd (tne (tag := g.tag) (by omega)) (tne (tag := g.tag) (by omega)) (tne (tag := g.tag) (by omega)) (tne (tag := g.tag) (by omega)) (tne (tag := g.tag) (by omega)) (tne (tag := g.tag) (by omega)) (tne (tag := g.tag) (by omega)) (tne (tag := g.tag) (by omega)) (tne (tag := g.tag) (by omega)) ph1 (fun h => by omega) hp2 (by omega) (by omega) fun h1 f1 H1 W1 A1 O1 => ldB_of rfl ?_
  have hS : ∀ k, k ≠ 3 → k ≠ 20 + i → k ≠ 2 → ∀ b ∈ [w, f, m, mc], g.tag b ≠ k := by
    intro k k1 k2 k3 b hb
    simp at hb
    rcases hb with rfl | rfl | rfl | rfl <;> omega
  obtain ⟨l1, l2, l3, l4⟩ := D.lo
  have lf := (tgs f (by simp)).2.1
  have base1 : Only [] h0 h1 := D.base.nil O1 fun b hb => by
    simp at hb
    rcases hb with rfl | rfl | rfl | rfl <;> assumption
  have own1 : ∀ B, g.o = some B → ActAt h0.size h1 g.tag 10 d g.fo B ∧ g.st 0 ≤ B.ph ∧ (B.ph ≤ 3 → B.v = ((g.P + 1 : Nat) : Int) ∧ g.push = ((g.P + 1 : Nat) : Int)) ∧ (4 ≤ B.ph → g.push = 0) := fun B hB => by
    obtain ⟨a, b⟩ := D.own B hB
    exact ⟨a.only O1 (hS 10 (by decide) (by omega) (by decide)), b⟩
  have thA1 : ∀ j, j < 3 → j ≠ i → ∀ B, g.th j = some B → ActAt h0.size h1 g.tag (20 + j) d (g.ft j) B ∧ g.st (j + 1) ≤ B.ph := fun j hj hji B hB => by
    obtain ⟨a, b⟩ := D.thA j hj B hB
    exact ⟨a.only O1 (hS (20 + j) (by omega) (by omega) (by omega)), b⟩
  have took1 := D.took.only O1 (hS 4 (by decide) (by omega) (by decide))
  have put1 := D.put.only O1 (hS 5 (by decide) (by omega) (by decide))
  obtain ⟨hlen, hto⟩ := th_step D.sys hA hn hl (by omega)
  rcases hto with ⟨dn, S', lt⟩ | ⟨dn, ok, S'⟩ | ⟨dn, ok, q', eq, S'⟩
  · rw [dn, Bool.not_false, bcase_true]
    rw [dn, if_neg (by simp)] at A1
    refine hK h1 { g with cs := (stepD 0 n g.cs A).2, ops := up g.ops, fails := f1, th := fset g.th i (some (stepD 0 n g.cs A).1), st := fset g.st (i + 1) (g.st (i + 1) + 1) } ⟨W1, S', ?_, ?_, ?_, ?_, ?_, took1, put1, D.perm, D.sort, D.tg, D.lo, D.few, base1⟩ rfl rfl (fun j hj => fset_other _ _ hj) ?_
    · dsimp only
      rw [ov_same hA]
      exact A1
    · intro B hB
      dsimp only at hB ⊢
      obtain ⟨a, b, c⟩ := own1 B hB
      exact ⟨a, by rw [fset_other _ _ (by omega)]; exact b, c⟩
    · intro j hj B hB
      dsimp only at hB ⊢
      by_cases e : j = i
      · subst e
        rw [fset_same] at hB ⊢
        injection hB with hB
        subst hB
        exact ⟨⟨by rw [hft]; exact H1, by
          rw [hft]
          exact fun b hb => ⟨(tgs b hb).1, (tgs b hb).2.1, Nat.lt_of_lt_of_le (tgs b hb).2.2 O1.size⟩⟩, by omega⟩
      · rw [fset_other _ _ e] at hB
        rw [fset_other _ _ (by omega)]
        exact thA1 j hj e B hB
    · intro e
      dsimp only
      rw [fset_other _ _ (by omega)]
      exact D.s0 e
    · intro j hj e
      dsimp only at e ⊢
      by_cases e' : j = i
      · subst e'
        rw [fset_same] at e
        cases e
      · rw [fset_other _ _ e'] at e
        rw [fset_other _ _ (by omega)]
        exact D.si j hj e
    · show mtD (fset g.th i (some (stepD 0 n g.cs A).1) i) < _
      rw [fset_same]
      simp only [mtD]
      omega
  all_goals
    rw [dn, Bool.not_true, bcase_false]
    rw [dn, if_pos rfl] at A1
    refine ⟨by omega, by omega, ldP_of (n := some ⟨f, 0, none⟩) (by rw [A1.rd, cellsW_get_th hi]; simp only [hA, ovD, hft]) (gotD_spec H1 ⟨_, _, rfl, ?_⟩)⟩
    unfold gotDV gotDB
    rw [dn, ok]
  · simp only [Bool.and_false, bcase_false]
    unfold F26.wk6 F26.Jk6
    simp only [add_mk, Nat.zero_add, Nat.add_zero, Int.toNat_natCast, Nat.mul_one]
    refine ⟨by omega, by omega, stK_at A1 (by rw [cellsW_len]; omega) rfl fun h2 A2 O2 z2 => ?_⟩
    rw [cellsW_th hi] at A2
    have hW : ∀ k, k ≠ 3 → ∀ b ∈ [w], g.tag b ≠ k := by
      intro k hk b hb
      simp at hb
      subst hb
      omega
    refine hK h2 { g with cs := (stepD 0 n g.cs A).2, ops := up g.ops, fails := f1, th := fset g.th i none, st := fset g.st (i + 1) 0 } ⟨W1.only O2 (by simp; exact tne (tag := g.tag) (by omega)) (by simp; exact tne (tag := g.tag) (by omega)) (by simp; exact tne (tag := g.tag) (by omega)), S', ?_, ?_, ?_, ?_, ?_, took1.only O2 (hW 4 (by decide)), put1.only O2 (hW 5 (by decide)), D.perm, D.sort, D.tg, D.lo, D.few, base1.nil O2 (by simpa using l4)⟩ rfl rfl (fun j hj => fset_other _ _ hj) ?_
    · dsimp only
      rw [ov_none]
      exact A2
    · intro B hB
      dsimp only at hB ⊢
      obtain ⟨a, b, c⟩ := own1 B hB
      exact ⟨a.only O2 (hW 10 (by decide)), by rw [fset_other _ _ (by omega)]; exact b, c⟩
    · intro j hj B hB
      dsimp only at hB ⊢
      by_cases e : j = i
      · subst e
        rw [fset_same] at hB
        cases hB
      · rw [fset_other _ _ e] at hB
        rw [fset_other _ _ (by omega)]
        obtain ⟨a, b⟩ := thA1 j hj e B hB
        exact ⟨a.only O2 (hW _ (by omega)), b⟩
    · intro e
      dsimp only
      rw [fset_other _ _ (by omega)]
      exact D.s0 e
    · intro j hj e
      dsimp only at e ⊢
      by_cases e' : j = i
      · subst e'
        rw [fset_same]
      · rw [fset_other _ _ e'] at e
        rw [fset_other _ _ (by omega)]
        exact D.si j hj e
    · show mtD (fset g.th i none i) < _
      rw [fset_same]
      simp only [mtD]
      omega
  · simp only [Bool.and_true, bcase_true, if_true]
    have hpl := perm_len D
    refine ldS_of (by rw [A1.rd]; rfl) (newK_at fun h2 A2 O2 z2 => ?_)
    have sz1 := O1.size
    have bsz := base1.size
    have took2 := took1.up O2 4
    refine win_app (lo := h0.size) took2.1 A2 (by omega) rfl (by omega) fun p' c' h3 Wn3 O3 hp' => ?_
    have lw := A1.lt
    have A3 := (A1.only O2 (by simp)).only O3 (fun hb => by have := D.took.2 _ hb; omega)
    refine stK_at A3 (by rw [cellsW_len]; omega) rfl fun h4 A4 O4 z4 => ?_
    unfold F26.wk6 F26.Jk6
    simp only [add_mk, Nat.zero_add, Nat.add_zero, Int.toNat_natCast, Nat.mul_one]
    have A4 : At h4 w (cellsW m d (ovD g.o g.fo.1) g.push (fun i => ovD (g.th i) (g.ft i).1) (fset g.st (i + 1) 0) (.slice p' (g.took.length + 1) c') (.slice g.pp g.P g.pc)) := A4
    refine ⟨by omega, by omega, stK_at A4 (by rw [cellsW_len]; omega) rfl fun h5 A5 O5 z5 => ?_⟩
    rw [cellsW_th hi] at A5
    have hW : ∀ k, k ≠ 3 → ∀ b ∈ [w], tagUp g.tag h1.size 4 b ≠ k := by
      intro k hk b hb
      simp at hb
      subst hb
      rw [tagUp_old lw]
      omega
    have h4S : ∀ k, k ≠ 4 → ∀ b ∈ OwnB g.tp, tagUp g.tag h1.size 4 b ≠ k := by
      intro k hk b hb
      rw [tagUp_old (took1.1.lt b hb).2, D.took.2 b hb]
      omega
    have O45 := O4.trans O5 (by simp)
    have tu : ∀ b, b < h1.size → tagUp g.tag h1.size 4 b = g.tag b := fun b hb => tagUp_old hb
    have ltd := W1.lt
    have W3 := (W1.only O2 (by simp) (by simp) (by simp)).only O3 (fun hb => by have := D.took.2 _ hb; omega) (fun hb => by have := D.took.2 _ hb; omega) (fun hb => by have := D.took.2 _ hb; omega)
    refine hK h5 { g with cs := (stepD 0 n g.cs A).2, ops := up g.ops, fails := f1, T := g.T + 1, q := q', th := fset g.th i none, st := fset g.st (i + 1) 0, took := g.took ++ [(stepD 0 n g.cs A).1.v], tp := p', tc := c', tag := tagUp g.tag h1.size 4 } ⟨W3.only O45 (by simp; exact tne (tag := g.tag) (by omega)) (by simp; exact tne (tag := g.tag) (by omega)) (by simp; exact tne (tag := g.tag) (by omega)), S', ?_, ?_, ?_, ?_, ?_, ?_, ?_, ?_, ?_, ?_, D.lo, D.few, ?_⟩ rfl rfl (fun j hj => fset_other _ _ hj) ?_
    · dsimp only
      rw [ov_none]
      simpa using A5
    · intro B hB
      dsimp only at hB ⊢
      obtain ⟨a, b, c⟩ := own1 B hB
      exact ⟨((a.up O2 4).only O3 (h4S 10 (by decide))).only O45 (hW 10 (by decide)), by rw [fset_other _ _ (by omega)]; exact b, c⟩
    · intro j hj B hB
      dsimp only at hB ⊢
      by_cases e : j = i
      · subst e
        rw [fset_same] at hB
        cases hB
      · rw [fset_other _ _ e] at hB
        rw [fset_other _ _ (by omega)]
        obtain ⟨a, b⟩ := thA1 j hj e B hB
        exact ⟨((a.up O2 4).only O3 (h4S _ (by omega))).only O45 (hW _ (by omega)), b⟩
    · intro e
      dsimp only
      rw [fset_other _ _ (by omega)]
      exact D.s0 e
    · intro j hj e
      dsimp only at e ⊢
      by_cases e' : j = i
      · subst e'
        rw [fset_same]
      · rw [fset_other _ _ e'] at e
        rw [fset_other _ _ (by omega)]
        exact D.si j hj e
    · have hp5 : ∀ b ∈ OwnB p', tagUp g.tag h1.size 4 b = 4 := fun b hb => by
        rcases hp' b hb with hb | hb
        · rw [tagUp_old (took1.1.lt b hb).2]
          exact D.took.2 b hb
        · exact tagUp_new (by omega)
      refine ⟨?_, hp5⟩
      have : Win h3 h0.size p' (g.took ++ [(stepD 0 n g.cs A).1.v]).length c' ((g.took ++ [(stepD 0 n g.cs A).1.v]).map (.int .u64)) := by simpa using Wn3
      refine this.only O45 fun b hb hw => ?_
      have := hp5 b hb
      simp at hw
      subst hw
      rw [tagUp_old lw] at this
      omega
    · exact ((put1.up O2 4).only O3 (h4S 5 (by decide))).only O45 (hW 5 (by decide))
    · have := D.perm
      rw [eq] at this
      simpa using this
    · have := D.sort
      rw [eq] at this
      exact (List.pairwise_cons.1 this).2
    · exact ⟨(tu d ltd.1).trans t1, (tu m ltd.2.1).trans t2, (tu mc ltd.2.2).trans t3, (tu w lw).trans t4⟩
    · exact ((base1.nil O2 (by simp)).nil O3 fun b hb => (took1.1.lt b hb).1).nil O45 (by simpa using l4)
    · show mtD (fset g.th i none i) < _
      rw [fset_same]
      simp only [mtD]
      omega

theorem steals26 (D : Wd h0 h w d m mc n g) (hk : g.k < 100000) (hi : i < 3)
    (hK : ∀ h' g', Wd h0 h' w d m mc n g' → g'.k = g.k → g'.o = g.o → (∀ j, j ≠ i → g'.th j = g.th j) → (g.th i ≠ none → mtD (g'.th i) < mtD (g.th i)) → K (.tuple #[]) h') :
    CallsH Try.prog 26 [.pointer (some ⟨w, 0, none⟩), .int .i64 (i : Int)] h K := by
  apply F26.spec
  unfold F26.w F26.J0
  simp only [add_mk, Nat.zero_add, Nat.add_zero, Int.toNat_natCast, Nat.mul_one]
  refine ⟨by omega, by omega, ?_⟩
  cases hA : g.th i with
  | some A =>
    refine ldP_of (n := some ⟨(g.ft i).1, 0, none⟩) (by rw [D.at_.rd, cellsW_get_th hi]; simp only [hA, ovD]) ?_
    rw [Option.isNone_some, bcase_false]
    exact steals_go D hk hi hA fun h' g' a b c e f => hK h' g' a b c e fun _ => hA ▸ f
  | none =>
    refine ldP_of (n := none) (by rw [D.at_.rd, cellsW_get_th hi]; simp only [hA, ovD]) ?_
    rw [Option.isNone_none, bcase_true]
    obtain ⟨t1, t2, t3, t4⟩ := D.tg
    obtain ⟨l1, l2, l3, l4⟩ := D.lo
    have ltd := D.dw.lt
    have lw := D.at_.lt
    have bsz := D.base.size
    refine ldP_of (by rw [D.at_.rd]; rfl) (steal_dw fun f bx by_ h1 H1 O1 a b c a' b' c' n1 n2 n3 => ldP_of rfl ⟨trivial, trivial, trivial, trivial, by omega, by omega, ?_⟩)
    refine stK_at (D.at_.only O1 (by simp)) (by rw [cellsW_len]; omega) rfl fun h2 A2 O2 z2 => ?_
    rw [cellsW_th hi] at A2
    have tu : ∀ b, b < h.size → tagUp g.tag h.size (20 + i) b = g.tag b := fun b hb => tagUp_old hb
    have hW : ∀ k, k ≠ 3 → ∀ b ∈ [w], tagUp g.tag h.size (20 + i) b ≠ k := by
      intro k hk b hb
      simp at hb
      subst hb
      rw [tu _ lw]
      omega
    refine steals_go (g := { g with th := fset g.th i (some ⟨0, 0, 0, 11, false, false⟩), ft := fset g.ft i (f, bx, by_), tag := tagUp g.tag h.size (20 + i) }) ⟨(D.dw.only O1 (by simp) (by simp) (by simp)).only O2 (by simp; exact tne (tag := g.tag) (by omega)) (by simp; exact tne (tag := g.tag) (by omega)) (by simp; exact tne (tag := g.tag) (by omega)), th_begin D.sys, ?_, ?_, ?_, D.s0, ?_, (D.took.up O1 _).only O2 (hW 4 (by decide)), (D.put.up O1 _).only O2 (hW 5 (by decide)), D.perm, D.sort, ?_, D.lo, D.few, (D.base.nil O1 (by simp)).nil O2 (by simpa using l4)⟩ hk hi (fset_same _ _ _) fun h' g' a b c e f => hK h' g' a b c (fun j hj => (e j hj).trans (fset_other _ _ hj)) (fun hne => absurd hA hne)
    · dsimp only
      have : (fun j => ovD (fset g.th i (some ⟨0, 0, 0, 11, false, false⟩) j) (fset g.ft i (f, bx, by_) j).1) = fset (fun j => ovD (g.th j) (g.ft j).1) i (.pointer (some ⟨f, 0, none⟩)) := by
        funext j
        by_cases e : j = i
        · subst e
          rw [fset_same, fset_same, fset_same]
          rfl
        · rw [fset_other _ _ e, fset_other _ _ e, fset_other _ _ e]
      rw [this]
      exact A2
    · intro B hB
      dsimp only at hB ⊢
      obtain ⟨a, b⟩ := D.own B hB
      exact ⟨(a.up O1 _).only O2 (hW 10 (by decide)), b⟩
    · intro j hj B hB
      dsimp only at hB ⊢
      by_cases e : j = i
      · subst e
        rw [fset_same] at hB ⊢
        injection hB with hB
        subst hB
        have fx : ∀ b, h.size ≤ b → tagUp g.tag h.size (20 + j) b = 20 + j := fun b hb => tagUp_new hb
        refine ⟨⟨H1.only O2 (by simp; omega) (by simp; omega) (by simp; omega), fun b hb => ?_⟩, ?_⟩
        · simp at hb
          rw [fx b (by omega)]
          exact ⟨rfl, by omega, by omega⟩
        · rw [D.si j hj hA]
          exact Nat.zero_le _
      · rw [fset_other _ _ e] at hB ⊢
        obtain ⟨a, b⟩ := D.thA j hj B hB
        exact ⟨(a.up O1 _).only O2 (hW _ (by omega)), b⟩
    · intro j hj e
      dsimp only at e ⊢
      by_cases e' : j = i
      · subst e'
        rw [fset_same] at e
        cases e
      · rw [fset_other _ _ e'] at e
        exact D.si j hj e
    · exact ⟨(tu d ltd.1).trans t1, (tu m ltd.2.1).trans t2, (tu mc ltd.2.2).trans t3, (tu w lw).trans t4⟩
end
end Go.Proofs.Ytipckkeaoncjiaa.Ev
