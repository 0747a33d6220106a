/- RefsPlay: what it compares (alike), seen from the heap. Conditions: the refs, the rows of counts, the stacks stand. -/
import Derived.Test.YtipckkeaoncjiaaRefL
import Derived.Test.YtipckkeaoncjiaaL9G
namespace Go.Proofs.Ytipckkeaoncjiaa.Ev
open Go

theorem Ints.ld2 {h : Heap} {k : IntKind} {p : Option Addr} {xs : List Int} (H : Ints h k p xs) {x : Int} {j : Nat} (hx : x = j) (hj : j < xs.length) {Q : Int → Prop} (hQ : Q (xs.getD j 0)) :
    ptrK p fun a => (0 ≤ x ∧ x < (xs.length : Int) ∧ ldI k (Ev.rd h (Addr.add a (Int.toNat x * 1))) Q) := by
  subst hx
  obtain ⟨a, hp, hr⟩ := H j hj
  rw [hp, ptrK_some]
  refine ⟨by omega, by omega, ?_⟩
  rw [show Int.toNat (j : Int) * 1 = j by omega, hr, ldI_some]
  exact hQ
theorem Own.ints {h : Heap} {lo : Nat} {k : IntKind} {p : Option Addr} {c : Nat} {xs : List Int} (H : Own h lo 1 p xs.length c (xs.map (Value.int k))) : Ints h k p xs := fun j hj => by
  obtain ⟨b, hp, hr⟩ := H.rd (j := j) (by simpa using hj)
  refine ⟨_, hp, ?_⟩
  rw [add_mk, Nat.zero_add, hr]
  simp [hj, List.getD]
theorem fm_get (f : Int → Int) : ∀ (ks : List Int) (j : Nat), j < ks.length → (ks.flatMap (cntV f))[2 * j]? = some (.int .u32 (ks.getD j 0)) ∧ (ks.flatMap (cntV f))[2 * j + 1]? = some (.int .i64 (f (ks.getD j 0)))
  | [], j, h => by simp at h
  | x :: ks, 0, _ => by simp [List.flatMap_cons, cntV]
  | x :: ks, j + 1, h => by
    have := fm_get f ks j (by simpa using h)
    rw [List.flatMap_cons]
    rw [show 2 * (j + 1) = (2 * j + 1) + 1 by omega]
    simpa [cntV] using this
theorem fm_len (f : Int → Int) (ks : List Int) : (ks.flatMap (cntV f)).length = ks.length * 2 := by
  induction ks with
  | nil => rfl
  | cons x ks ih => rw [List.flatMap_cons, List.length_append, ih]; simp [cntV]; omega
section
variable {h : Heap} {lo : Nat} {q : Option Addr} {qc : Nat} {ks : List Int} {f : Int → Int}
theorem Own.at2 (H : Own h lo 2 q ks.length qc (ks.flatMap (cntV f))) {j : Nat} (hj : j < ks.length) : ∃ b, q = some ⟨b, 0, none⟩ ∧ Ev.rd h ⟨b, j * 2 + 0, none⟩ = some (.int .u32 (ks.getD j 0)) ∧ Ev.rd h ⟨b, j * 2 + 1, none⟩ = some (.int .i64 (f (ks.getD j 0))) := by
  have hl := fm_len f ks
  obtain ⟨b, hp, hr⟩ := H.rd (j := 2 * j) (by omega)
  obtain ⟨b', hp', hr'⟩ := H.rd (j := 2 * j + 1) (by omega)
  rw [hp] at hp'
  injection hp' with e
  injection e with e
  subst e
  have g := fm_get f ks j hj
  exact ⟨b, hp, by rw [show j * 2 + 0 = 2 * j by omega, hr, g.1], by rw [show j * 2 + 1 = 2 * j + 1 by omega, hr', g.2]⟩
theorem Own.ldH (H : Own h lo 2 q ks.length qc (ks.flatMap (cntV f))) {x : Int} {j : Nat} (hx : x = j) (hj : j < ks.length) {Q : Int → Prop} (hQ : Q (ks.getD j 0)) :
    ptrK q fun a => (0 ≤ x ∧ x < (ks.length : Int) ∧ ldI .u32 (Ev.rd h (Addr.add (Addr.add a (Int.toNat x * 2)) 0)) Q) := by
  subst hx
  obtain ⟨b, hp, h1, h2⟩ := H.at2 hj
  rw [hp, ptrK_some]
  refine ⟨by omega, by omega, ?_⟩
  rw [add_mk, add_mk, Int.toNat_natCast, Nat.zero_add, h1, ldI_some]
  exact hQ
theorem Own.ldN (H : Own h lo 2 q ks.length qc (ks.flatMap (cntV f))) {x : Int} {j : Nat} (hx : x = j) (hj : j < ks.length) {Q : Int → Prop} (hQ : Q (f (ks.getD j 0))) :
    ptrK q fun a => (0 ≤ x ∧ x < (ks.length : Int) ∧ ldI .i64 (Ev.rd h (Addr.add (Addr.add a (Int.toNat x * 2)) 1)) Q) := by
  subst hx
  obtain ⟨b, hp, h1, h2⟩ := H.at2 hj
  rw [hp, ptrK_some]
  refine ⟨by omega, by omega, ?_⟩
  rw [add_mk, add_mk, Int.toNat_natCast, Nat.zero_add, h2, ldI_some]
  exact hQ
theorem Own.ldHN (H : Own h lo 2 q ks.length qc (ks.flatMap (cntV f))) {x : Int} {j : Nat} (hx : x = j) (hj : j < ks.length) {Q : Int → Int → Prop} (hQ : Q (ks.getD j 0) (f (ks.getD j 0))) :
    ptrK q fun a => (0 ≤ x ∧ x < (ks.length : Int) ∧ ldI .u32 (Ev.rd h (Addr.add (Addr.add a (Int.toNat x * 2)) 0)) fun n => ldI .i64 (Ev.rd h (Addr.add (Addr.add a (Int.toNat x * 2)) 1)) fun m => Q n m) := by
  subst hx
  obtain ⟨b, hp, h1, h2⟩ := H.at2 hj
  rw [hp, ptrK_some]
  refine ⟨by omega, by omega, ?_⟩
  rw [add_mk, add_mk, add_mk, Int.toNat_natCast, Nat.zero_add, h1, ldI_some, h2, ldI_some]
  exact hQ
end
/-- stacks: heads at B, each with a row of its own -/
structure St (lo : Nat) (h : Heap) (B W N : Nat) (P : Nat → Option Addr) (C : Nat → Nat) (L : Nat → List Int) : Prop where
  T : At h B (rowV W fun k => .slice (P k) (L k).length (C k))
  own : ∀ k, k < W → Own h lo 1 (P k) (L k).length (C k) ((L k).map (Value.int .u32))
  len : ∀ k, k < W → (L k).length ≤ N
  ge : lo ≤ B
  sep : ∀ k, k < W → ∀ b ∈ OwnB (P k), b ≠ B ∧ ∀ k', k' < W → k' ≠ k → b ∉ OwnB (P k')
theorem St.only {lo : Nat} {h h' : Heap} {B W N : Nat} {P : Nat → Option Addr} {C : Nat → Nat} {L : Nat → List Int} (H : St lo h B W N P C L) {X : List Nat} (O : Only X h h') (hB : B ∉ X) (hp : ∀ k, k < W → ∀ b ∈ OwnB (P k), b ∉ X) : St lo h' B W N P C L :=
  ⟨H.T.only O hB, fun k hk => (H.own k hk).onlyC O fun b hb _ => hp k hk b hb, H.len, H.ge, H.sep⟩
theorem St.new {lo : Nat} {h h' : Heap} {B W N : Nat} {P : Nat → Option Addr} {C : Nat → Nat} {L : Nat → List Int} (H : St lo h B W N P C L) (O : Only [] h h') : St lo h' B W N P C L := H.only O (by simp) (by simp)
theorem St.ldT {lo : Nat} {h : Heap} {B W N : Nat} {P : Nat → Option Addr} {C : Nat → Nat} {L : Nat → List Int} (H : St lo h B W N P C L) {x : Int} {k : Nat} (hx : x = k) (hk : k < W) {Q : Option Addr → Nat → Nat → Prop} (hQ : Q (P k) (L k).length (C k)) :
    ptrK (some ⟨B, 0, none⟩) fun a => (0 ≤ x ∧ x < (W : Int) ∧ ldS (Ev.rd h (Addr.add a (Int.toNat x * 1))) Q) := by
  subst hx
  rw [ptrK_some]
  refine ⟨by omega, by omega, ?_⟩
  rw [add_mk, show 0 + Int.toNat (k : Int) * 1 = k by omega, H.T.rd, rowV_get hk, ldS_some]
  exact hQ
theorem in56 {h : Heap} {p : Option Addr} {c : Nat} {xs : List Int} {x : Int} {K : Value → Heap → Prop} (hI : Ints h .u32 p xs) (hn : xs.length ≤ LB) (hK : K (.bool (decide (x ∈ xs))) h) : CallsH Try.prog 56 [.slice p xs.length c, .int .u32 x] h K := by
  refine F56.spec _ _ _ _ h K ?_
  have hLB : LB = 140737488355328 := rfl
  unfold F56.w F56.J0 F56.wk2 F56.Jk2
  have main : ∀ (d i : Nat), i + d = xs.length → (∀ j, j < i → xs.getD j 0 ≠ x) → F56.wL2 (d + 1) p xs.length c x i h K := by
    intro d
    induction d with
    | zero =>
      intro i hd hi
      unfold F56.wL2 F56.JL2
      rw [show decide ((i : Int) < (xs.length : Int)) = false by simp; omega, bcase_false]
      rw [decide_eq_false (fun hm => ?_)] at hK
      · exact hK
      · obtain ⟨j, hj, e⟩ := List.getElem_of_mem hm
        exact hi j (by omega) (by simp [List.getD, hj, e])
    | succ d ih =>
      intro i hd hi
      unfold F56.wL2 F56.JL2
      rw [show decide ((i : Int) < (xs.length : Int)) = true by simp; omega, bcase_true]
      refine hI.ld2 rfl (by omega) ?_
      refine bcase_of (fun he => ?_) fun he => ?_
      · have he' : xs.getD i 0 = x := by simpa using he
        rw [decide_eq_true (by rw [← he']; simp [List.getD, show i < xs.length by omega])] at hK
        exact hK
      · rw [show IntKind.wrap .i64 ((i : Int) + 1) = ((i + 1 : Nat) : Int) by rw [wrap_i64 (by omega) (by omega)]; omega]
        refine ih (i + 1) (by omega) fun j hj => ?_
        by_cases e : j = i
        · subst e; simpa using he
        · exact hi j (by omega)
  exact ⟨_, main xs.length 0 (by omega) fun j hj => by omega⟩
section
variable {lo lo' lo2 : Nat} {h : Heap} {B W N : Nat} {P : Nat → Option Addr} {C : Nat → Nat} {L : Nat → List Int} {q : Option Addr} {qc cB : Nat} {ks : List Int} {f : Int → Int} {K : Value → Heap → Prop}
theorem root55 (HS : St lo h B W N P C L) (HQ : Own h lo2 2 q ks.length qc (ks.flatMap (cntV f))) (hN : N ≤ 1000) (hW : W ≤ 4) (hk : ks.length ≤ 1000) {x : Int} (hx : x ∈ ks ∨ ∃ k, k < W ∧ x ∈ L k) (hK : K (.bool true) h) :
    CallsH Try.prog 55 [.int .u32 x, .slice q ks.length qc, .slice (some ⟨B, 0, none⟩) W cB] h K := by
  refine F55.spec _ _ _ _ _ _ _ h K ?_
  have hLB : LB = 140737488355328 := rfl
  unfold F55.w F55.J0 F55.wk2 F55.Jk2
  have main : ∀ (d i : Nat), i + d = ks.length → (∀ j, j < i → ks.getD j 0 ≠ x) → F55.wL2 (d + 1) x q ks.length qc (some ⟨B, 0, none⟩) W cB i h K := by
    intro d
    induction d with
    | zero =>
      intro i hd hi
      unfold F55.wL2 F55.JL2
      rw [show decide ((i : Int) < (ks.length : Int)) = false by simp; omega, bcase_false]
      have hx' : ∃ k, k < W ∧ x ∈ L k := by
        rcases hx with hx | hx
        · obtain ⟨j, hj, e⟩ := List.getElem_of_mem hx
          exact absurd (by simp [List.getD, hj, e]) (hi j (by omega))
        · exact hx
      unfold F55.wk6 F55.Jk6 F55.wk7 F55.Jk7
      obtain ⟨k0, hk0, hm⟩ := hx'
      have in2 : ∀ (d k : Nat), k + d = W → k ≤ k0 → F55.wL7 (d + 1) x (some ⟨B, 0, none⟩) W cB k h K := by
        intro d
        induction d with
        | zero => intro k hd hk; omega
        | succ d ih =>
          intro k hd hk
          unfold F55.wL7 F55.JL7
          rw [show decide ((k : Int) < (W : Int)) = true by simp; omega, bcase_true]
          refine HS.ldT rfl (by omega) ?_
          refine in56 (HS.own k (by omega)).ints (by have := HS.len k (by omega); omega) ?_
          rw [ldB_some]
          refine bcase_of (fun _ => hK) fun he => ?_
          rw [show IntKind.wrap .i64 ((k : Int) + 1) = ((k + 1 : Nat) : Int) by rw [wrap_i64 (by omega) (by omega)]; omega]
          refine ih (k + 1) (by omega) ?_
          by_cases e : k = k0
          · subst e; simp [hm] at he
          · omega
      exact ⟨_, in2 W 0 (by omega) (by omega)⟩
    | succ d ih =>
      intro i hd hi
      unfold F55.wL2 F55.JL2
      rw [show decide ((i : Int) < (ks.length : Int)) = true by simp; omega, bcase_true]
      refine HQ.ldH rfl (by omega) ?_
      refine bcase_of (fun he => hK) fun he => ?_
      rw [show IntKind.wrap .i64 ((i : Int) + 1) = ((i + 1 : Nat) : Int) by rw [wrap_i64 (by omega) (by omega)]; omega]
      refine ih (i + 1) (by omega) fun j hj => ?_
      by_cases e : j = i
      · subst e; simpa using he
      · exact hi j (by omega)
  exact ⟨_, main ks.length 0 (by omega) fun j hj => by omega⟩
end
end Go.Proofs.Ytipckkeaoncjiaa.Ev
