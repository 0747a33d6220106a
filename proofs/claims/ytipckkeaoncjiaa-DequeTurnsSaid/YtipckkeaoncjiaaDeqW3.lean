/- THE DEQUE's WORLD: the owner's turn. Conditions: the world stands (Wd). -/
import Derived.Test.YtipckkeaoncjiaaDeqW2
namespace Go.Proofs.Ytipckkeaoncjiaa.Ev
open Go

section
variable {h0 h : Heap} {w d m mc n : Nat} {g : Gh} {K : Value → Heap → Prop} {A : Dc}

theorem ov_some {o : Option Dc} {A A' : Dc} {f : Nat} (hA : o = some A) : ovD (some A') f = ovD o f := by
  rw [hA]
  rfl
/-- the owner's act is done: its place is cleared -/
theorem owns_end {h1 : Heap} {g1 : Gh} (hE : ∀ h', At h' w (cellsW m d (.pointer none) g1.push (fun i => ovD (g1.th i) (g1.ft i).1) g1.st (.slice g1.tp g1.took.length g1.tc) (.slice g1.pp g1.P g1.pc)) → Only [w] h1 h' → K (.tuple #[]) h') {ov : Value}
    (A1 : At h1 w (cellsW m d ov g1.push (fun i => ovD (g1.th i) (g1.ft i).1) g1.st (.slice g1.tp g1.took.length g1.tc) (.slice g1.pp g1.P g1.pc))) : F25.wk13 ⟨w, 0, none⟩ h1 K := by
  unfold F25.wk13 F25.Jk13
  simp only [add_mk, Nat.zero_add, Nat.add_zero]
  exact stK_at A1 (by rw [cellsW_len]; omega) rfl fun h2 A2 O2 z2 => hE h2 A2 O2

theorem owns_go (D : Wd h0 h w d m mc n g) (hk : g.k < 100000) (hA : g.o = some A)
    (hK : ∀ h' g', Wd h0 h' w d m mc n g' → g'.k = g.k + 1 → g'.th = g.th → mtD g'.o < mtD (some A) → K (.tuple #[]) h') :
    F25.wk6 ⟨w, 0, none⟩ h K := by
  obtain ⟨⟨act, tgs⟩, hst, hpush, hpop⟩ := D.own A hA
  obtain ⟨f, bx, by_, hfo⟩ : ∃ f bx by_, g.fo = (f, bx, by_) := ⟨_, _, _, rfl⟩
  rw [hfo] at act tgs
  dsimp only at act tgs
  obtain ⟨t1, t2, t3, t4⟩ := D.tg
  have tf := (tgs f (by simp)).1
  have tx := (tgs bx (by simp)).1
  have ty := (tgs by_ (by simp)).1
  have sysA := D.sys
  rw [hA] at sysA
  obtain ⟨ph1, hd, hp1⟩ := sysA.phs
  have hn := D.dw.hn
  have hl := D.dw.hl
  have fE := D.few
  unfold F25.wk6 F25.Jk6
  simp only [add_mk, Nat.zero_add, Nat.add_zero]
  refine ldP_of (n := some ⟨f, 0, none⟩) (by rw [D.at_.rd, hA, hfo]; rfl) ?_
  rw [show (0 : Int) = ((0 : Nat) : Int) from rfl]
  refine step47 D.at_ D.dw act hd (tne (tag := g.tag) (by omega)) (tne (tag := g.tag) (by omega)) (tne (tag := g.tag) (by omega)) (tne (tag := g.tag) (by omega)) (tne (tag := g.tag) (by omega)) (tne (tag := g.tag) (by omega)) (tne (tag := g.tag) (by omega)) (tne (tag := g.tag) (by omega)) (tne (tag := g.tag) (by omega)) (by omega) hp1 (fun h => by omega) (by omega) (by omega) fun h1 f1 H1 W1 A1 O1 => ldB_of rfl ?_
  have hS : ∀ k, k ≠ 3 → k ≠ 10 → k ≠ 2 → ∀ b ∈ [w, f, m, mc], g.tag b ≠ k := by
    intro k k1 k2 k3 b hb
    simp at hb
    rcases hb with rfl | rfl | rfl | rfl <;> omega
  obtain ⟨l1, l2, l3, l4⟩ := D.lo
  have lf := (tgs f (by simp)).2.1
  have base1 : Only [] h0 h1 := D.base.nil O1 fun b hb => by
    simp at hb
    rcases hb with rfl | rfl | rfl | rfl <;> assumption
  have thA1 : ∀ j, j < 3 → ∀ B, g.th j = some B → ActAt h0.size h1 g.tag (20 + j) d (g.ft j) B ∧ g.st (j + 1) ≤ B.ph := fun j hj B hB => by
    obtain ⟨a, b⟩ := D.thA j hj B hB
    exact ⟨a.only O1 (hS (20 + j) (by omega) (by omega) (by omega)), b⟩
  have took1 := D.took.only O1 (hS 4 (by decide) (by omega) (by decide))
  have put1 := D.put.only O1 (hS 5 (by decide) (by omega) (by decide))
  have hpl := perm_len D
  have lw := A1.lt
  have ltd := W1.lt
  have sz1 := O1.size
  have bsz := base1.size
  obtain ⟨T', E', q', hE', hlen, hto⟩ := own_step sysA hn hl (by omega)
  rcases hto with ⟨dn, hand', S', es, lt, hp, hv⟩ | ⟨dn, S', hto⟩
  · rw [dn, Bool.not_false, bcase_true]
    rw [dn, if_neg (by simp)] at A1
    refine hK h1 { g with cs := (stepD 0 n g.cs A).2, ops := up g.ops, fails := f1, T := T', E := E', q := q', hand := hand', o := some (stepD 0 n g.cs A).1, st := fset g.st 0 (g.st 0 + 1), k := g.k + 1 } ⟨W1, S', ?_, ?_, ?_, ?_, ?_, took1, put1, ?_, ?_, D.tg, D.lo, ⟨by dsimp only; omega, by dsimp only; omega⟩, base1⟩ rfl rfl ?_
    · dsimp only
      rw [ov_some hA]
      exact A1
    · intro B hB
      dsimp only at hB ⊢
      injection hB with hB
      subst hB
      refine ⟨⟨by rw [hfo]; exact H1, ?_⟩, ?_, fun h3 => ?_, fun h4 => hpop (by omega)⟩
      · rw [hfo]
        exact fun b hb => ⟨(tgs b hb).1, (tgs b hb).2.1, Nat.lt_of_lt_of_le (tgs b hb).2.2 O1.size⟩
      · rw [fset_same]
        omega
      · obtain ⟨e1, e2⟩ := hpush (hp.2 h3)
        exact ⟨(hv (hp.2 h3)).trans e1, e2⟩
    · intro j hj B hB
      dsimp only at hB ⊢
      rw [fset_other _ _ (by omega)]
      exact thA1 j hj B hB
    · intro e
      cases e
    · intro j hj e
      dsimp only at e ⊢
      rw [fset_other _ _ (by omega)]
      exact D.si j hj e
    · dsimp only
      rw [es]
      exact D.perm
    · dsimp only
      rw [es]
      exact D.sort
    · simp only [mtD]
      omega
  rw [dn, Bool.not_true, bcase_false]
  rw [dn, if_pos rfl] at A1
  refine ldP_of (n := some ⟨f, 0, none⟩) (by rw [A1.rd, hA, hfo]; rfl) (gotD_spec H1 ⟨_, _, rfl, ?_⟩)
  unfold gotDV gotDB
  rw [dn]
  have hmt : mtD none < mtD (some A) := by
    simp only [mtD]
    omega
  rcases hto with ⟨ok, eq⟩ | ⟨ok, hp3, eq, hv⟩ | ⟨ok, hp4, eq⟩
  · rw [ok]
    simp only [Bool.and_false, bcase_false]
    refine owns_end (g1 := { g with st := fset g.st 0 0 }) (fun h2 A2 O2 => ?_) A1
    have hW : ∀ k, k ≠ 3 → ∀ b ∈ [w], g.tag b ≠ k := by
      intro k hk b hb
      simp at hb
      subst hb
      omega
    refine hK h2 { g with cs := (stepD 0 n g.cs A).2, ops := up g.ops, fails := f1, T := T', E := E', q := q', hand := [], o := none, st := fset g.st 0 0, k := g.k + 1 } ⟨W1.only O2 (by simp; exact tne (tag := g.tag) (by omega)) (by simp; exact tne (tag := g.tag) (by omega)) (by simp; exact tne (tag := g.tag) (by omega)), S', A2, ?_, ?_, ?_, ?_, took1.only O2 (hW 4 (by decide)), put1.only O2 (hW 5 (by decide)), ?_, ?_, D.tg, D.lo, ⟨by dsimp only; omega, by dsimp only; omega⟩, base1.nil O2 (by simpa using l4)⟩ rfl rfl hmt
    · intro B hB
      cases hB
    · intro j hj B hB
      dsimp only at hB ⊢
      rw [fset_other _ _ (by omega)]
      obtain ⟨a, b⟩ := thA1 j hj B hB
      exact ⟨a.only O2 (hW _ (by omega)), b⟩
    · intro _
      exact fset_same g.st 0 0
    · intro j hj e
      dsimp only at e ⊢
      rw [fset_other _ _ (by omega)]
      exact D.si j hj e
    · dsimp only
      rw [eq, List.append_nil]
      exact D.perm
    · dsimp only
      rw [eq, List.append_nil]
      exact D.sort
  · rw [ok]
    simp only [Bool.and_true, bcase_true, if_true]
    obtain ⟨ev, ep⟩ := hpush hp3
    refine ldI_of (n := g.push) (by rw [A1.rd]; rfl) ?_
    rw [decide_eq_true (by omega), bcase_true]
    refine ldS_of (by rw [A1.rd]; rfl) (newK_at fun h2 A2 O2 z2 => ?_)
    have put2 := put1.up O2 5
    refine win_app (lo := h0.size) put2.1 A2 (by omega) rfl (by omega) fun p' c' h3 Wn3 O3 hp' => ?_
    have A3 := (A1.only O2 (by simp)).only O3 (fun hb => by have := D.put.2 _ hb; omega)
    refine stK_at A3 (by rw [cellsW_len]; omega) rfl fun h4 A4 O4 z4 => ?_
    have A4 : At h4 w (cellsW m d (ovD g.o g.fo.1) g.push (fun i => ovD (g.th i) (g.ft i).1) (fset g.st 0 0) (.slice g.tp g.took.length g.tc) (.slice p' (g.P + 1) c')) := A4
    refine ldB_of (n := true) (by rw [A4.rd]; rfl) ?_
    rw [bcase_true]
    refine ldI_of (n := g.push) (by rw [A4.rd]; rfl) ?_
    rw [hv, ev, ep, beq_self_eq_true]
    refine stK_at A4 (by rw [cellsW_len]; omega) rfl fun h5 A5 O5 z5 => ?_
    have A5 : At h5 w (cellsW m d (ovD g.o g.fo.1) g.push (fun i => ovD (g.th i) (g.ft i).1) (fset g.st 0 0) (.slice g.tp g.took.length g.tc) (.slice p' (g.P + 1) c')) := A5
    refine owns_end (g1 := { g with st := fset g.st 0 0, pp := p', pc := c', P := g.P + 1 }) (fun h6 A6 O6 => ?_) A5
    have hW : ∀ k, k ≠ 3 → ∀ b ∈ [w], tagUp g.tag h1.size 5 b ≠ k := by
      intro k hk b hb
      simp at hb
      subst hb
      rw [tagUp_old lw]
      omega
    have h4S : ∀ k, k ≠ 5 → ∀ b ∈ OwnB g.pp, tagUp g.tag h1.size 5 b ≠ k := by
      intro k hk b hb
      rw [tagUp_old (put1.1.lt b hb).2, D.put.2 b hb]
      omega
    have O46 := (O4.trans O5 (by simp)).trans O6 (by simp)
    have tu : ∀ b, b < h1.size → tagUp g.tag h1.size 5 b = g.tag b := fun b hb => tagUp_old hb
    have W3 := (W1.only O2 (by simp) (by simp) (by simp)).only O3 (fun hb => by have := D.put.2 _ hb; omega) (fun hb => by have := D.put.2 _ hb; omega) (fun hb => by have := D.put.2 _ hb; omega)
    have ev' : (1 : Int) + (g.P : Int) = ((g.P + 1 : Nat) : Int) := by omega
    refine hK h6 { g with cs := (stepD 0 n g.cs A).2, ops := up g.ops, fails := f1, T := T', E := E', q := q', hand := [], o := none, st := fset g.st 0 0, pp := p', pc := c', P := g.P + 1, tag := tagUp g.tag h1.size 5, k := g.k + 1 } ⟨W3.only O46 (by simp; exact tne (tag := g.tag) (by omega)) (by simp; exact tne (tag := g.tag) (by omega)) (by simp; exact tne (tag := g.tag) (by omega)), S', A6, ?_, ?_, ?_, ?_, ?_, ?_, ?_, ?_, ?_, D.lo, ⟨by dsimp only; omega, by dsimp only; omega⟩, ?_⟩ rfl rfl hmt
    · intro B hB
      cases hB
    · intro j hj B hB
      dsimp only at hB ⊢
      rw [fset_other _ _ (by omega)]
      obtain ⟨a, b⟩ := thA1 j hj B hB
      exact ⟨((a.up O2 5).only O3 (h4S _ (by omega))).only O46 (hW _ (by omega)), b⟩
    · intro _
      exact fset_same g.st 0 0
    · intro j hj e
      dsimp only at e ⊢
      rw [fset_other _ _ (by omega)]
      exact D.si j hj e
    · exact ((took1.up O2 5).only O3 (h4S 4 (by decide))).only O46 (hW 4 (by decide))
    · have hp5 : ∀ b ∈ OwnB p', tagUp g.tag h1.size 5 b = 5 := fun b hb => by
        rcases hp' b hb with hb | hb
        · rw [tagUp_old (put1.1.lt b hb).2]
          exact D.put.2 b hb
        · exact tagUp_new (by omega)
      refine ⟨?_, hp5⟩
      have : Win h3 h0.size p' (g.P + 1) c' ((valsD 1 (g.P + 1)).map (.int .u64)) := by
        rw [valsD_snoc, List.map_append, ev', ← ev, ← hv]
        exact Wn3
      refine this.only O46 fun b hb hw => ?_
      have := hp5 b hb
      simp at hw
      subst hw
      rw [tagUp_old lw] at this
      omega
    · dsimp only
      rw [eq, List.append_nil, valsD_snoc, ← List.append_assoc, hv, ev, ev']
      exact D.perm.append_right _
    · dsimp only
      rw [eq, List.append_nil, List.pairwise_append]
      refine ⟨D.sort, by simp, fun a ha b hb => ?_⟩
      simp at hb
      subst hb
      have : a ∈ valsD 1 g.P := D.perm.subset (List.mem_append.2 (Or.inr ha))
      simp only [valsD, List.mem_map, List.mem_range] at this
      obtain ⟨i, hi, rfl⟩ := this
      omega
    · exact ⟨(tu d ltd.1).trans t1, (tu m ltd.2.1).trans t2, (tu mc ltd.2.2).trans t3, (tu w lw).trans t4⟩
    · exact ((base1.nil O2 (by simp)).nil O3 fun b hb => (put1.1.lt b hb).1).nil O46 (by simpa using l4)
  · rw [ok]
    simp only [Bool.and_true, bcase_true, if_true]
    have ep := hpop hp4
    refine ldI_of (n := g.push) (by rw [A1.rd]; rfl) ?_
    rw [ep, decide_eq_false (by omega), bcase_false]
    refine ldS_of (by rw [A1.rd]; rfl) (newK_at fun h2 A2 O2 z2 => ?_)
    have took2 := took1.up O2 4
    refine win_app (lo := h0.size) took2.1 A2 (by omega) rfl (by omega) fun p' c' h3 Wn3 O3 hp' => ?_
    have A3 := (A1.only O2 (by simp)).only O3 (fun hb => by have := D.took.2 _ hb; omega)
    refine stK_at A3 (by rw [cellsW_len]; omega) rfl fun h4 A4 O4 z4 => ?_
    have A4 : At h4 w (cellsW m d (ovD g.o g.fo.1) g.push (fun i => ovD (g.th i) (g.ft i).1) (fset g.st 0 0) (.slice p' (g.took.length + 1) c') (.slice g.pp g.P g.pc)) := A4
    have A4 : At h4 w (cellsW m d (ovD g.o g.fo.1) g.push (fun i => ovD (g.th i) (g.ft i).1) (fset g.st 0 0) (.slice p' (g.took ++ [(stepD 0 n g.cs A).1.v]).length c') (.slice g.pp g.P g.pc)) := by simpa using A4
    refine owns_end (g1 := { g with st := fset g.st 0 0, tp := p', tc := c', took := g.took ++ [(stepD 0 n g.cs A).1.v] }) (fun h5 A5 O5 => ?_) A4
    have hW : ∀ k, k ≠ 3 → ∀ b ∈ [w], tagUp g.tag h1.size 4 b ≠ k := by
      intro k hk b hb
      simp at hb
      subst hb
      rw [tagUp_old lw]
      omega
    have h4S : ∀ k, k ≠ 4 → ∀ b ∈ OwnB g.tp, tagUp g.tag h1.size 4 b ≠ k := by
      intro k hk b hb
      rw [tagUp_old (took1.1.lt b hb).2, D.took.2 b hb]
      omega
    have O45 := O4.trans O5 (by simp)
    have tu : ∀ b, b < h1.size → tagUp g.tag h1.size 4 b = g.tag b := fun b hb => tagUp_old hb
    have W3 := (W1.only O2 (by simp) (by simp) (by simp)).only O3 (fun hb => by have := D.took.2 _ hb; omega) (fun hb => by have := D.took.2 _ hb; omega) (fun hb => by have := D.took.2 _ hb; omega)
    refine hK h5 { g with cs := (stepD 0 n g.cs A).2, ops := up g.ops, fails := f1, T := T', E := E', q := q', hand := [], o := none, st := fset g.st 0 0, tp := p', tc := c', took := g.took ++ [(stepD 0 n g.cs A).1.v], tag := tagUp g.tag h1.size 4, k := g.k + 1 } ⟨W3.only O45 (by simp; exact tne (tag := g.tag) (by omega)) (by simp; exact tne (tag := g.tag) (by omega)) (by simp; exact tne (tag := g.tag) (by omega)), S', A5, ?_, ?_, ?_, ?_, ?_, ?_, ?_, ?_, ?_, D.lo, ⟨by dsimp only; omega, by dsimp only; omega⟩, ?_⟩ rfl rfl hmt
    · intro B hB
      cases hB
    · intro j hj B hB
      dsimp only at hB ⊢
      rw [fset_other _ _ (by omega)]
      obtain ⟨a, b⟩ := thA1 j hj B hB
      exact ⟨((a.up O2 4).only O3 (h4S _ (by omega))).only O45 (hW _ (by omega)), b⟩
    · intro _
      exact fset_same g.st 0 0
    · intro j hj e
      dsimp only at e ⊢
      rw [fset_other _ _ (by omega)]
      exact D.si j hj e
    · have hp5 : ∀ b ∈ OwnB p', tagUp g.tag h1.size 4 b = 4 := fun b hb => by
        rcases hp' b hb with hb | hb
        · rw [tagUp_old (took1.1.lt b hb).2]
          exact D.took.2 b hb
        · exact tagUp_new (by omega)
      refine ⟨?_, hp5⟩
      have : Win h3 h0.size p' (g.took ++ [(stepD 0 n g.cs A).1.v]).length c' ((g.took ++ [(stepD 0 n g.cs A).1.v]).map (.int .u64)) := by simpa using Wn3
      refine this.only O45 fun b hb hw => ?_
      have := hp5 b hb
      simp at hw
      subst hw
      rw [tagUp_old lw] at this
      omega
    · exact ((put1.up O2 4).only O3 (h4S 5 (by decide))).only O45 (hW 5 (by decide))
    · have := D.perm
      rw [eq] at this
      dsimp only
      rw [List.append_nil, List.append_assoc]
      exact (List.Perm.append_left g.took List.perm_append_comm).trans this
    · have := D.sort
      rw [eq] at this
      dsimp only
      rw [List.append_nil]
      exact (List.pairwise_append.1 this).1
    · exact ⟨(tu d ltd.1).trans t1, (tu m ltd.2.1).trans t2, (tu mc ltd.2.2).trans t3, (tu w lw).trans t4⟩
    · exact ((base1.nil O2 (by simp)).nil O3 fun b hb => (took1.1.lt b hb).1).nil O45 (by simpa using l4)

theorem owns25 {x : Int} (D : Wd h0 h w d m mc n g) (hk : g.k < 100000)
    (hK : ∀ h' g', Wd h0 h' w d m mc n g' → g'.k = g.k + 1 → g'.th = g.th → (g.o ≠ none → mtD g'.o < mtD g.o) → K (.tuple #[]) h') :
    CallsH Try.prog 25 [.pointer (some ⟨w, 0, none⟩), .int .u8 x] h K := by
  apply F25.spec
  unfold F25.w F25.J0
  simp only [add_mk, Nat.zero_add, Nat.add_zero]
  cases hA : g.o with
  | some A =>
    refine ldP_of (n := some ⟨g.fo.1, 0, none⟩) (by rw [D.at_.rd, hA]; rfl) ?_
    rw [Option.isNone_some, bcase_false]
    exact owns_go D hk hA fun h' g' a b c e => hK h' g' a b c fun _ => hA ▸ e
  | none =>
    refine ldP_of (n := none) (by rw [D.at_.rd, hA]; rfl) ?_
    rw [Option.isNone_none, bcase_true]
    obtain ⟨t1, t2, t3, t4⟩ := D.tg
    obtain ⟨l1, l2, l3, l4⟩ := D.lo
    have ltd := D.dw.lt
    have lw := D.at_.lt
    have bsz := D.base.size
    have fE := D.few
    have sysN := D.sys
    rw [hA] at sysN
    have tu : ∀ k b, b < h.size → tagUp g.tag h.size k b = g.tag b := fun k b hb => tagUp_old hb
    have W0 := D.dw
    have dne : d ∉ [w] := by simp; exact tne (tag := g.tag) (by omega)
    have mne : m ∉ [w] := by simp; exact tne (tag := g.tag) (by omega)
    have cne : mc ∉ [w] := by simp; exact tne (tag := g.tag) (by omega)
    have hWg : ∀ k, k ≠ 3 → ∀ b ∈ [w], g.tag b ≠ k := by
      intro k hk b hb
      simp at hb
      subst hb
      omega
    -- an act begun
    have begin_ : ∀ (B : Dc) (pu : Int) (h1 h2 h3 : Heap) (f bx by_ : Nat), (∃ v, B = ⟨v, 0, 0, 0, false, false⟩) ∨ B = ⟨0, 0, 0, 4, false, false⟩ →
        ((B.ph ≤ 3 → B.v = ((g.P + 1 : Nat) : Int) ∧ pu = ((g.P + 1 : Nat) : Int)) ∧ (4 ≤ B.ph → pu = 0)) → Only [w] h h1 → DcIs h2 f d bx by_ B → Only [] h1 h2 → h1.size = h.size → h1.size ≤ f → h1.size ≤ bx → h1.size ≤ by_ → f < h2.size → bx < h2.size → by_ < h2.size →
        At h3 w (cellsW m d (.pointer (some ⟨f, 0, none⟩)) pu (fun i => ovD (g.th i) (g.ft i).1) g.st (.slice g.tp g.took.length g.tc) (.slice g.pp g.P g.pc)) → Only [w] h2 h3 → F25.wk6 ⟨w, 0, none⟩ h3 K := by
      intro B pu h1 h2 h3 f bx by_ hB hpu O1 H2 O2 sz f1 f2 f3 g1 g2 g3 A3 O3
      have hW : ∀ k, k ≠ 3 → ∀ b ∈ [w], tagUp g.tag h1.size 10 b ≠ k := by
        intro k hk b hb
        simp at hb
        subst hb
        rw [sz, tu _ _ lw]
        omega
      obtain ⟨hh, S'⟩ := own_begin sysN hB
      have s3 := O3.size
      have fresh : ∀ b, b ∈ [f, bx, by_] → tagUp g.tag h1.size 10 b = 10 ∧ h0.size ≤ b ∧ b < h3.size := fun b hb => by
        simp at hb
        rw [tagUp_new (by omega)]
        exact ⟨rfl, by omega, by omega⟩
      refine owns_go (A := B) (g := { g with o := some B, fo := (f, bx, by_), push := pu, tag := tagUp g.tag h1.size 10 }) ⟨((W0.only O1 dne mne cne).only O2 (by simp) (by simp) (by simp)).only O3 dne mne cne, S', A3, ?_, ?_, ?_, D.si, ((D.took.only O1 (hWg 4 (by decide))).up O2 _).only O3 (hW 4 (by decide)), ((D.put.only O1 (hWg 5 (by decide))).up O2 _).only O3 (hW 5 (by decide)), D.perm, D.sort, ?_, D.lo, D.few, ((D.base.nil O1 (by simpa using l4)).nil O2 (by simp)).nil O3 (by simpa using l4)⟩ hk rfl fun h' g' a b c e => hK h' g' a b c fun hne => absurd hA hne
      · intro C hC
        dsimp only at hC ⊢
        injection hC with hC
        subst hC
        refine ⟨⟨H2.only O3 (by simp; omega) (by simp; omega) (by simp; omega), fresh⟩, ?_, hpu⟩
        rw [D.s0 hA]
        exact Nat.zero_le _
      · intro j hj C hC
        dsimp only at hC ⊢
        obtain ⟨a, b⟩ := D.thA j hj C hC
        exact ⟨((a.only O1 (hWg _ (by omega))).up O2 _).only O3 (hW _ (by omega)), b⟩
      · intro e
        cases e
      · rw [sz]
        exact ⟨(tu _ d ltd.1).trans t1, (tu _ m ltd.2.1).trans t2, (tu _ mc ltd.2.2).trans t3, (tu _ w lw).trans t4⟩
    refine stK_at D.at_ (by rw [cellsW_len]; omega) rfl fun h1 A1 O1 z1 => ⟨by decide, bcase_of (fun _ => ?_) fun _ => ?_⟩
    · refine ldS_of (by rw [A1.rd]; rfl) ?_
      rw [show IntKind.wrap .u64 ((IntKind.wrap .u64 (g.P : Int)) + (1 : Int)) = ((g.P + 1 : Nat) : Int) by rw [wrap_u64 (n := (g.P : Int)) (by omega) (by omega), wrap_u64 (by omega) (by omega)]; omega]
      refine stK_at A1 (by simp [cellsW_len]) rfl fun h2 A2 O2 z2 => ldP_of (by rw [A2.rd]; rfl) (ldI_of (n := ((g.P + 1 : Nat) : Int)) (by rw [A2.rd]; rfl) ?_)
      refine push_dw fun f bx by_ h3 H3 O3 a b c a' b' c' n1 n2 n3 => ldP_of rfl ⟨trivial, ?_⟩
      refine stK_at (A2.only O3 (by simp)) (by simp [cellsW_len]) rfl fun h4 A4 O4 z4 => ?_
      exact begin_ ⟨((g.P + 1 : Nat) : Int), 0, 0, 0, false, false⟩ ((g.P + 1 : Nat) : Int) h2 h3 h4 f bx by_ (Or.inl ⟨_, rfl⟩) ⟨fun _ => ⟨rfl, rfl⟩, fun h => by simp at h⟩ (O1.trans O2 (by simp)) H3 O3 (by omega) a b c a' b' c' A4 O4
    · refine ldP_of (by rw [A1.rd]; rfl) (pop_dw fun f bx by_ h3 H3 O3 a b c a' b' c' n1 n2 n3 => ldP_of rfl ?_)
      refine stK_at (A1.only O3 (by simp)) (by simp [cellsW_len]) rfl fun h4 A4 O4 z4 => ?_
      exact begin_ ⟨0, 0, 0, 4, false, false⟩ 0 h1 h3 h4 f bx by_ (Or.inr rfl) ⟨fun h => by simp at h, fun _ => rfl⟩ O1 H3 O3 z1 a b c a' b' c' A4 O4
end
end Go.Proofs.Ytipckkeaoncjiaa.Ev
