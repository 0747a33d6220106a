/- THE LAW OF A DEQUE's LAST VALUE (DequeLast). Conditions: none. -/
import Derived.Test.YtipckkeaoncjiaaDeqW2
namespace Go.Proofs.Ytipckkeaoncjiaa.Ev
open Go

def und (A : Dc) : Option Dc := if A.done then none else some A
def cntOk (A : Nat → Dc) : Nat → Nat
  | 0 => 0
  | n + 1 => cntOk A n + if gotDB (A n) then 1 else 0
def thU (A : Nat → Dc) (N : Nat) : Nat → Option Dc := fun i => if i + 1 < N then und (A (i + 1)) else none
structure Gl where
  N : Nat
  A : Nat → Dc
  F : Nat → Nat × Nat × Nat
  tag : Nat → Nat
  cs : List Int
  T : Nat
  E : Nat
  q : List Int
  hand : List Int
  ops : Int
  fails : Int
  sp : Option Addr
  sc : Nat
  k : Nat
structure Lw (h0 h : Heap) (d m mc : Nat) (g : Gl) : Prop where
  dw : DW h d m mc 0 4 g.cs g.ops g.fails
  sys : Sys 0 4 g.cs g.T g.E g.q g.hand (und (g.A 0)) (thU g.A g.N)
  act : ∀ j, j < g.N → ActAt h0.size h g.tag (20 + j) d (g.F j) (g.A j)
  tot : cntOk g.A g.N + (g.q ++ g.hand).length = 1
  v42 : ∀ x ∈ g.q ++ g.hand, x = 42
  g42 : ∀ j, j < g.N → gotDB (g.A j) = true → (g.A j).v = 42
  phs : ∀ j, j < g.N → (g.A j).done = true → (g.A j).ph ≤ 14
  win : Win h h0.size g.sp g.N g.sc ((List.range g.N).map fun j => .pointer (some ⟨(g.F j).1, 0, none⟩))
  wtag : ∀ b ∈ OwnB g.sp, g.tag b = 4
  tg : g.tag d = 1 ∧ g.tag m = 2 ∧ g.tag mc = 2
  lo : h0.size ≤ d ∧ h0.size ≤ m ∧ h0.size ≤ mc
  pos : 1 ≤ g.N ∧ g.N ≤ 4
  pop : (g.A 0).done = false → 4 ≤ (g.A 0).ph
  few : g.E ≤ g.k
  base : Only [] h0 h

theorem stepD_ph {base n : Nat} {cs : List Int} {A : Dc} (h : A.ph ≤ 14) : (stepD base n cs A).1.ph ≤ 14 := by
  unfold stepD
  repeat' split
  all_goals first | exact h | simp
theorem cntOk_set {A : Nat → Dc} {j : Nat} {B : Dc} : ∀ (N : Nat), cntOk (fset A j B) N + (if j < N ∧ gotDB (A j) = true then 1 else 0) = cntOk A N + (if j < N ∧ gotDB B = true then 1 else 0)
  | 0 => by simp [cntOk]
  | N + 1 => by
    have ih := cntOk_set (A := A) (j := j) (B := B) N
    simp only [cntOk]
    by_cases e : N = j
    · subst e
      rw [fset_same]
      simp only [Nat.lt_irrefl, false_and, if_false] at ih
      have h1 : (if N < N + 1 ∧ gotDB (A N) = true then 1 else 0) = if gotDB (A N) = true then 1 else 0 := by simp
      have h2 : (if N < N + 1 ∧ gotDB B = true then 1 else 0) = if gotDB B = true then 1 else 0 := by simp
      rw [h1, h2]
      omega
    · rw [fset_other _ _ e]
      by_cases hj : j < N
      · have h1 : (if j < N + 1 ∧ gotDB (A j) = true then 1 else 0) = if j < N ∧ gotDB (A j) = true then 1 else 0 := by simp [hj, Nat.lt_succ_of_lt hj]
        have h2 : (if j < N + 1 ∧ gotDB B = true then 1 else 0) = if j < N ∧ gotDB B = true then 1 else 0 := by simp [hj, Nat.lt_succ_of_lt hj]
        rw [h1, h2]
        omega
      · simp only [hj, show ¬ j < N + 1 by omega, false_and, if_false] at ih ⊢
        omega
theorem und_done {A : Dc} (h : A.done = true) : und A = none := if_pos h
theorem und_on {A : Dc} (h : A.done = false) : und A = some A := if_neg (by simp [h])
theorem got_on {A : Dc} (h : A.done = false) : gotDB A = false := by simp [gotDB, h]
theorem thU_zero {A : Nat → Dc} {N : Nat} {B : Dc} : thU (fset A 0 B) N = thU A N := by
  funext i
  unfold thU
  rw [fset_other _ _ (by omega)]
theorem thU_succ {A : Nat → Dc} {N i : Nat} {B : Dc} (hi : i + 1 < N) : thU (fset A (i + 1) B) N = fset (thU A N) i (und B) := by
  funext j
  by_cases e : j = i
  · subst e
    rw [fset_same]
    unfold thU
    rw [if_pos hi, fset_same]
  · rw [fset_other _ _ e]
    unfold thU
    rw [fset_other _ _ (by omega)]

section
variable {h0 h : Heap} {d m mc : Nat} {g : Gl} {K : Value → Heap → Prop} {j : Nat}

theorem last_step (D : Lw h0 h d m mc g) (hj : j < g.N) (hk : g.k < 100000)
    (hK : ∀ h' g' b, Lw h0 h' d m mc g' → g'.N = g.N → g'.sp = g.sp → g'.sc = g.sc → g'.k = g.k + 1 → (∀ i, i ≠ j → g'.A i = g.A i) → (mtD (und (g.A j)) ≠ 0 → mtD (und (g'.A j)) < mtD (und (g.A j))) → ((g.A j).done = true → g'.A j = g.A j) → K (.bool b) h') :
    CallsH Try.prog 22 [.pointer (some ⟨(g.F j).1, 0, none⟩)] h K := by
  obtain ⟨act, tgs⟩ := D.act j hj
  obtain ⟨f, bx, by_, hft⟩ : ∃ f bx by_, g.F j = (f, bx, by_) := ⟨_, _, _, rfl⟩
  rw [hft] at act tgs ⊢
  dsimp only at act tgs ⊢
  obtain ⟨t1, t2, t3⟩ := D.tg
  obtain ⟨l1, l2, l3⟩ := D.lo
  obtain ⟨N1, N4⟩ := D.pos
  have tf := (tgs f (by simp)).1
  have lf := (tgs f (by simp)).2.1
  have hn := D.dw.hn
  have hl := D.dw.hl
  have fE := D.few
  have side : (g.A j).ph ≤ 14 ∧ ((g.A j).done = false → ((g.A j).ph = 2 ∨ (g.A j).ph = 7 → 0 ≤ (g.A j).b) ∧ ((g.A j).ph = 13 → 0 ≤ (g.A j).t)) := by
    cases hd : (g.A j).done with
    | true => exact ⟨D.phs j hj hd, fun e => by cases e⟩
    | false =>
      cases j with
      | zero =>
        have S := D.sys
        rw [und_on hd] at S
        obtain ⟨a, b, c⟩ := S.phs
        exact ⟨by omega, fun _ => ⟨c, fun e => by omega⟩⟩
      | succ i =>
        have hA : thU g.A g.N i = some (g.A (i + 1)) := by
          unfold thU
          rw [if_pos hj, und_on hd]
        obtain ⟨a, b, c, e⟩ := D.sys.thp hA
        exact ⟨b, fun _ => ⟨fun e => by omega, e⟩⟩
  have hS : ∀ k, k ≠ 20 + j → k ≠ 2 → ∀ b ∈ [f, m, mc], g.tag b ≠ k := by
    intro k k2 k3 b hb
    simp at hb
    rcases hb with rfl | rfl | rfl <;> omega
  have mk : ∀ (h1 : Heap) (g1 : Gl), Only [f, m, mc] h h1 → DW h1 d m mc 0 4 g1.cs g1.ops g1.fails → (∀ i, i ≠ j → g1.A i = g.A i) → g1.N = g.N → g1.F = g.F → g1.tag = g.tag → g1.sp = g.sp → g1.sc = g.sc → g1.k = g.k + 1 → DcIs h1 f d bx by_ (g1.A j) →
      Sys 0 4 g1.cs g1.T g1.E g1.q g1.hand (und (g1.A 0)) (thU g1.A g1.N) → cntOk g1.A g1.N + (g1.q ++ g1.hand).length = 1 → (∀ x ∈ g1.q ++ g1.hand, x = 42) → (gotDB (g1.A j) = true → (g1.A j).v = 42) → ((g1.A j).done = true → (g1.A j).ph ≤ 14) → ((g1.A 0).done = false → 4 ≤ (g1.A 0).ph) → g1.E ≤ g1.k → Lw h0 h1 d m mc g1 := by
    intro h1 g1 O1 W1 eA eN eF eT es ec ek H1 S1 tot v42 g42 phs pop few
    refine ⟨W1, S1, fun i hi => ?_, tot, v42, fun i hi hg => ?_, fun i hi hg => ?_, ?_, ?_, eT ▸ D.tg, D.lo, eN ▸ D.pos, pop, few, D.base.nil O1 fun b hb => ?_⟩
    · rw [eN] at hi
      rw [eT, eF]
      by_cases e : i = j
      · subst e
        rw [hft]
        exact ⟨H1, fun b hb => ⟨(tgs b hb).1, (tgs b hb).2.1, Nat.lt_of_lt_of_le (tgs b hb).2.2 O1.size⟩⟩
      · rw [eA i e]
        exact (D.act i hi).only O1 (hS _ (by omega) (by omega))
    · rw [eN] at hi
      by_cases e : i = j
      · subst e
        exact g42 hg
      · rw [eA i e] at hg ⊢
        exact D.g42 i hi hg
    · rw [eN] at hi
      by_cases e : i = j
      · subst e
        exact phs hg
      · rw [eA i e] at hg ⊢
        exact D.phs i hi hg
    · rw [eN, es, ec, eF]
      exact D.win.only O1 fun b hb hb' => hS 4 (by omega) (by omega) b hb' (D.wtag b hb)
    · rw [es, eT]
      exact D.wtag
    · simp at hb
      rcases hb with rfl | rfl | rfl <;> assumption
  cases hd : (g.A j).done with
  | true =>
    have e0 : stepD 0 4 g.cs (g.A j) = (g.A j, g.cs) := by
      unfold stepD
      rw [if_pos hd]
    have hend : ∀ h' fails', DcIs h' f d bx by_ (g.A j) → DW h' d m mc 0 4 g.cs g.ops fails' → Only [f, m, mc] h h' → K (.bool (g.A j).done) h' := fun h1 f1 H1 W1 O1 => by
      refine hK h1 { g with fails := f1, k := g.k + 1 } _ (mk h1 { g with fails := f1, k := g.k + 1 } O1 W1 (fun _ _ => rfl) rfl rfl rfl rfl rfl rfl H1 D.sys D.tot D.v42 (D.g42 j hj) (D.phs j hj) D.pop (Nat.le_succ_of_le fE)) rfl rfl rfl rfl (fun _ _ => rfl) (fun e => ?_) (fun _ => rfl)
      rw [und_done hd] at e
      exact absurd rfl e
    apply F22.spec
    unfold F22.w F22.J0
    simp only [add_mk, Nat.zero_add]
    refine ldB_of (n := true) (by rw [act.act.rd, ← hd]; rfl) ?_
    rw [Bool.not_true, bcase_false]
    unfold F22.wk3 F22.Jk3
    simp only [add_mk, Nat.zero_add]
    exact ldB_of (by rw [act.act.rd]; rfl) (hend h g.fails act D.dw (Only.refl _ _))
  | false =>
    obtain ⟨s1, s2⟩ := side
    obtain ⟨s2, s3⟩ := s2 hd
    refine stepD_dw D.dw act (tne (tag := g.tag) (by omega)) (tne (tag := g.tag) (by omega)) (tne (tag := g.tag) (by omega)) s1 s2 s3 fun h1 f1 H1 W1 O1 => ?_
    rw [hd, if_neg (by simp)] at W1
    have mk' := fun (T' E' : Nat) (q' hand' : List Int) => mk h1 { g with A := fset g.A j (stepD 0 4 g.cs (g.A j)).1, cs := (stepD 0 4 g.cs (g.A j)).2, T := T', E := E', q := q', hand := hand', ops := up g.ops, fails := f1, k := g.k + 1 } O1 W1 (fun i hi => fset_other _ _ hi) rfl rfl rfl rfl rfl rfl (by dsimp only; rw [fset_same]; exact H1)
    have fin := fun (T' E' : Nat) (q' hand' : List Int) L => hK h1 { g with A := fset g.A j (stepD 0 4 g.cs (g.A j)).1, cs := (stepD 0 4 g.cs (g.A j)).2, T := T', E := E', q := q', hand := hand', ops := up g.ops, fails := f1, k := g.k + 1 } (stepD 0 4 g.cs (g.A j)).1.done L rfl rfl rfl rfl (fun i hi => fset_other _ _ hi)
    have cs1 := cntOk_set (A := g.A) (j := j) (B := (stepD 0 4 g.cs (g.A j)).1) g.N
    rw [if_neg (fun e => by rw [got_on hd] at e; cases e.2)] at cs1
    have tot := D.tot
    have v42 := D.v42
    have hphs := stepD_ph (base := 0) (n := 4) (cs := g.cs) s1
    have hsame : fset g.A j (stepD 0 4 g.cs (g.A j)).1 j = (stepD 0 4 g.cs (g.A j)).1 := fset_same _ _ _
    have h0j : fset g.A j (stepD 0 4 g.cs (g.A j)).1 0 = if j = 0 then (stepD 0 4 g.cs (g.A j)).1 else g.A 0 := by
      by_cases e : j = 0
      · subst e
        rw [fset_same, if_pos rfl]
      · rw [fset_other _ _ (Ne.symm e), if_neg e]
    have gd : (g.A j).done = true → fset g.A j (stepD 0 4 g.cs (g.A j)).1 j = g.A j := fun e => by rw [hd] at e; cases e
    cases j with
    | zero =>
      have S := D.sys
      rw [und_on hd] at S
      have sph := S.phs
      obtain ⟨T', E', q', hE', hlen, hto⟩ := own_step S hn hl (by omega)
      have hpop := D.pop hd
      rcases hto with ⟨dn, hand', S', es, lt, hp3, -⟩ | ⟨dn, S', hto⟩
      · refine fin T' E' q' hand' (mk' T' E' q' hand' ?_ ?_ ?_ ?_ ?_ ?_ (by dsimp only; omega)) (fun _ => ?_) gd
        · dsimp only
          rw [hsame, und_on dn, thU_zero]
          exact S'
        · dsimp only
          rw [got_on dn] at cs1
          simp at cs1
          rw [es]
          omega
        · dsimp only
          rw [es]
          exact v42
        · dsimp only
          rw [hsame, got_on dn]
          intro e
          cases e
        · dsimp only
          rw [hsame, dn]
          intro e
          cases e
        · dsimp only
          rw [hsame]
          intro _
          omega
        · dsimp only
          rw [hsame, und_on dn, und_on hd]
          simp only [mtD]
          omega
      · have key : cntOk (fset g.A 0 (stepD 0 4 g.cs (g.A 0)).1) g.N + q'.length = 1 ∧ (∀ x ∈ q', x = 42) ∧ (gotDB (stepD 0 4 g.cs (g.A 0)).1 = true → (stepD 0 4 g.cs (g.A 0)).1.v = 42) := by
          rcases hto with ⟨ok, eq⟩ | ⟨ok, hp3, -⟩ | ⟨ok, hp4, eq⟩
          · have hg : gotDB (stepD 0 4 g.cs (g.A 0)).1 = false := by simp [gotDB, ok]
            rw [hg] at cs1 ⊢
            simp at cs1
            rw [eq]
            exact ⟨by omega, v42, fun e => by cases e⟩
          · omega
          · have hg : gotDB (stepD 0 4 g.cs (g.A 0)).1 = true := by simp [gotDB, ok, dn]
            rw [hg, if_pos ⟨hj, rfl⟩] at cs1
            rw [eq] at tot v42
            simp at tot
            exact ⟨by omega, fun x hx => v42 x (by simp [hx]), fun _ => v42 _ (by simp)⟩
        refine fin T' E' q' [] (mk' T' E' q' [] ?_ ?_ ?_ ?_ ?_ ?_ (by dsimp only; omega)) (fun _ => ?_) gd
        · dsimp only
          rw [hsame, und_done dn, thU_zero]
          exact S'
        · dsimp only
          rw [List.append_nil]
          exact key.1
        · dsimp only
          rw [List.append_nil]
          exact key.2.1
        · dsimp only
          rw [hsame]
          exact key.2.2
        · dsimp only
          rw [hsame]
          exact fun _ => hphs
        · dsimp only
          rw [hsame, dn]
          intro e
          cases e
        · dsimp only
          rw [hsame, und_done dn, und_on hd]
          simp only [mtD]
          omega
    | succ i =>
      have hA : thU g.A g.N i = some (g.A (i + 1)) := by
        unfold thU
        rw [if_pos hj, und_on hd]
      have sph := D.sys.thp hA
      have h0' : fset g.A (i + 1) (stepD 0 4 g.cs (g.A (i + 1))).1 0 = g.A 0 := fset_other _ _ (by omega)
      obtain ⟨hlen, hto⟩ := th_step D.sys hA hn hl (by omega)
      rcases hto with ⟨dn, S', lt⟩ | ⟨dn, ok, S'⟩ | ⟨dn, ok, q', eq, S'⟩
      · refine fin g.T g.E g.q g.hand (mk' g.T g.E g.q g.hand ?_ ?_ v42 ?_ ?_ ?_ (by dsimp only; omega)) (fun _ => ?_) gd
        · dsimp only
          rw [h0', thU_succ hj, und_on dn]
          exact S'
        · dsimp only
          rw [got_on dn] at cs1
          simp at cs1
          omega
        · dsimp only
          rw [hsame, got_on dn]
          intro e
          cases e
        · dsimp only
          rw [hsame, dn]
          intro e
          cases e
        · dsimp only
          rw [h0']
          exact D.pop
        · dsimp only
          rw [hsame, und_on dn, und_on hd]
          simp only [mtD]
          omega
      · refine fin g.T g.E g.q g.hand (mk' g.T g.E g.q g.hand ?_ ?_ v42 ?_ ?_ ?_ (by dsimp only; omega)) (fun _ => ?_) gd
        · dsimp only
          rw [h0', thU_succ hj, und_done dn]
          exact S'
        · dsimp only
          have hg : gotDB (stepD 0 4 g.cs (g.A (i + 1))).1 = false := by simp [gotDB, ok]
          rw [hg] at cs1
          simp at cs1
          omega
        · dsimp only
          rw [hsame]
          simp [gotDB, ok]
        · dsimp only
          rw [hsame]
          exact fun _ => hphs
        · dsimp only
          rw [h0']
          exact D.pop
        · dsimp only
          rw [hsame, und_done dn, und_on hd]
          simp only [mtD]
          omega
      · rw [eq] at tot v42
        simp at tot
        refine fin (g.T + 1) g.E q' g.hand (mk' (g.T + 1) g.E q' g.hand ?_ ?_ ?_ ?_ ?_ ?_ (by dsimp only; omega)) (fun _ => ?_) gd
        · dsimp only
          rw [h0', thU_succ hj, und_done dn]
          exact S'
        · dsimp only
          have hg : gotDB (stepD 0 4 g.cs (g.A (i + 1))).1 = true := by simp [gotDB, ok, dn]
          rw [hg, if_pos ⟨hj, rfl⟩] at cs1
          simp
          omega
        · dsimp only
          intro x hx
          exact v42 x (by simp only [List.cons_append, List.mem_cons]; exact Or.inr hx)
        · dsimp only
          rw [hsame]
          exact fun _ => v42 _ (by simp)
        · dsimp only
          rw [hsame]
          exact fun _ => hphs
        · dsimp only
          rw [h0']
          exact D.pop
        · dsimp only
          rw [hsame, und_done dn, und_on hd]
          simp only [mtD]
          omega

theorem last_done (D : Lw h0 h d m mc g) (hj : j < g.N) (h : mtD (und (g.A j)) = 0) : (g.A j).done = true := by
  cases hd : (g.A j).done with
  | true => rfl
  | false =>
    rw [und_on hd] at h
    simp only [mtD] at h
    cases j with
    | zero =>
      have S := D.sys
      rw [und_on hd] at S
      have := S.phs
      omega
    | succ i =>
      have hA : thU g.A g.N i = some (g.A (i + 1)) := by
        unfold thU
        rw [if_pos hj, und_on hd]
      have := D.sys.thp hA
      omega
theorem thU_more {A : Nat → Dc} {M : Nat} {B : Dc} : thU (fset A (M + 1) B) (M + 2) = fset (thU A (M + 1)) M (und B) := by
  funext j
  by_cases e : j = M
  · subst e
    rw [fset_same]
    unfold thU
    rw [if_pos (by omega), fset_same]
  · rw [fset_other _ _ e]
    unfold thU
    rw [fset_other _ _ (by omega)]
    by_cases h : j + 1 < M + 1
    · rw [if_pos h, if_pos (by omega)]
    · rw [if_neg h, if_neg (by omega)]
/-- one thief more -/
theorem last_more {cc : Nat} (D : Lw h0 h d m mc g) (hN : g.N < 4) {h1 h2 h3 : Heap} {f bx by_ : Nat} {p' : Option Addr} (H1 : DcIs h1 f d bx by_ ⟨0, 0, 0, 11, false, false⟩) (O1 : Only [] h h1) (a : h.size ≤ f) (b : h.size ≤ bx) (c : h.size ≤ by_) (a' : f < h1.size) (b' : bx < h1.size) (c' : by_ < h1.size)
    (O2 : Only [] h1 h2) (O3 : Only (OwnB g.sp) h2 h3) (Wn : Win h3 h0.size p' (g.N + 1) cc (((List.range g.N).map fun j => .pointer (some ⟨(g.F j).1, 0, none⟩)) ++ [.pointer (some ⟨f, 0, none⟩)])) (hp : ∀ b ∈ OwnB p', b ∈ OwnB g.sp ∨ h2.size ≤ b) :
    Lw h0 h3 d m mc { g with N := g.N + 1, A := fset g.A g.N ⟨0, 0, 0, 11, false, false⟩, F := fset g.F g.N (f, bx, by_), tag := tagUp (tagUp g.tag h.size (20 + g.N)) h1.size 4, sp := p', sc := cc } := by
  obtain ⟨t1, t2, t3⟩ := D.tg
  obtain ⟨l1, l2, l3⟩ := D.lo
  obtain ⟨N1, N4⟩ := D.pos
  have ltd := D.dw.lt
  have bsz := D.base.size
  have z1 := O1.size
  have z2 := O2.size
  have z3 := O3.size
  have tu : ∀ b, b < h.size → tagUp (tagUp g.tag h.size (20 + g.N)) h1.size 4 b = g.tag b := fun b hb => by rw [tagUp_old (by omega), tagUp_old hb]
  have wlt := D.win.lt
  have h4S : ∀ k, k ≠ 4 → ∀ b ∈ OwnB g.sp, tagUp (tagUp g.tag h.size (20 + g.N)) h1.size 4 b ≠ k := by
    intro k hk b hb
    rw [tu b (wlt b hb).2, D.wtag b hb]
    omega
  have fresh : ∀ b, b ∈ [f, bx, by_] → tagUp (tagUp g.tag h.size (20 + g.N)) h1.size 4 b = 20 + g.N ∧ h0.size ≤ b ∧ b < h3.size := fun b hb => by
    simp at hb
    rw [tagUp_old (by omega), tagUp_new (by omega)]
    exact ⟨rfl, by omega, by omega⟩
  have nS : ∀ b, h.size ≤ b → b ∉ OwnB g.sp := fun b hb hs => by
    have := (wlt b hs).2
    omega
  obtain ⟨M, hM⟩ : ∃ M, g.N = M + 1 := ⟨g.N - 1, by omega⟩
  refine ⟨((D.dw.only O1 (by simp) (by simp) (by simp)).only O2 (by simp) (by simp) (by simp)).only O3 (fun hb => by have := D.wtag _ hb; omega) (fun hb => by have := D.wtag _ hb; omega) (fun hb => by have := D.wtag _ hb; omega), ?_, ?_, ?_, D.v42, ?_, ?_, ?_, ?_, ⟨(tu _ ltd.1).trans t1, (tu _ ltd.2.1).trans t2, (tu _ ltd.2.2).trans t3⟩, D.lo, ⟨by dsimp only; omega, by dsimp only; omega⟩, ?_, D.few, ((D.base.nil O1 (by simp)).nil O2 (by simp)).nil O3 fun b hb => (wlt b hb).1⟩
  · dsimp only
    rw [fset_other _ _ (by omega), hM, thU_more]
    have S := D.sys
    rw [hM] at S
    exact th_begin S
  · intro j hj
    dsimp only at hj ⊢
    by_cases e : j = g.N
    · subst e
      rw [fset_same, fset_same]
      exact ⟨(H1.only O2 (by simp) (by simp) (by simp)).only O3 (nS _ a) (nS _ b) (nS _ c), fresh⟩
    · rw [fset_other _ _ e, fset_other _ _ e]
      exact (((D.act j (by omega)).up O1 _).up O2 _).only O3 (h4S _ (by omega))
  · dsimp only
    have := cntOk_set (A := g.A) (j := g.N) (B := ⟨0, 0, 0, 11, false, false⟩) g.N
    simp only [Nat.lt_irrefl, false_and, if_false] at this
    show cntOk (fset g.A g.N ⟨0, 0, 0, 11, false, false⟩) g.N + (if gotDB (fset g.A g.N ⟨0, 0, 0, 11, false, false⟩ g.N) = true then 1 else 0) + _ = 1
    rw [fset_same, got_on rfl]
    have := D.tot
    simp
    simp at this
    omega
  · intro j hj hg
    dsimp only at hj hg ⊢
    by_cases e : j = g.N
    · subst e
      rw [fset_same, got_on rfl] at hg
      cases hg
    · rw [fset_other _ _ e] at hg ⊢
      exact D.g42 j (by omega) hg
  · intro j hj hg
    dsimp only at hj hg ⊢
    by_cases e : j = g.N
    · subst e
      rw [fset_same] at hg
      cases hg
    · rw [fset_other _ _ e] at hg ⊢
      exact D.phs j (by omega) hg
  · dsimp only
    rw [List.range_succ, List.map_append, List.map_singleton, fset_same]
    rw [show ((List.range g.N).map fun j => Value.pointer (some ⟨(fset g.F g.N (f, bx, by_) j).1, 0, none⟩)) = (List.range g.N).map fun j => Value.pointer (some ⟨(g.F j).1, 0, none⟩) from List.map_congr_left fun j hj => by
      have := List.mem_range.1 hj
      rw [fset_other _ _ (by omega)]]
    exact Wn
  · intro b hb
    dsimp only at hb ⊢
    rcases hp b hb with h' | h'
    · rw [tu b (wlt b h').2]
      exact D.wtag b h'
    · exact tagUp_new (by omega)
  · dsimp only
    rw [fset_other _ _ (by omega)]
    exact D.pop
end
end Go.Proofs.Ytipckkeaoncjiaa.Ev
