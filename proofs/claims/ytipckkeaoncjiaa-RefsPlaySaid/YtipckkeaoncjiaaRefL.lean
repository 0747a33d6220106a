/- LAWS OF refs: what is known. Conditions: none. -/
import Derived.Test.YtipckkeaoncjiaaRefE
import Derived.Test.YtipckkeaoncjiaaL9F
namespace Go.Proofs.Ytipckkeaoncjiaa.Ev
open Go

theorem sorted_ext {l l' : List Int} (h : l.Pairwise (· < ·)) (h' : l'.Pairwise (· < ·)) (hm : ∀ x, x ∈ l ↔ x ∈ l') : l = l' := by
  have n1 : l.Nodup := h.imp fun {a b} hab e => by omega
  have n2 : l'.Nodup := h'.imp fun {a b} hab e => by omega
  exact List.Perm.eq_of_pairwise (le := fun a b => a < b) (fun a b _ _ h1 h2 => absurd (Int.lt_trans h1 h2) (Int.lt_irrefl _)) h h' ((List.perm_ext_iff_of_nodup n1 n2).2 hm)
theorem Own.ld {h : Heap} {lo : Nat} {k : IntKind} {p : Option Addr} {c : Nat} {xs : List Int} (H : Own h lo 1 p xs.length c (xs.map (Value.int k))) {x : Int} {j : Nat} (hx : x = j) (hj : j < xs.length) {Q : Int → Prop} (hQ : Q (xs.getD j 0)) :
    ptrK p fun a => (0 ≤ x ∧ x < (xs.length : Int) ∧ ldI k (Ev.rd h (Addr.add a (Int.toNat x * 1))) Q) := by
  subst hx
  obtain ⟨b, hp, hr⟩ := H.rd (j := j) (by simpa using hj)
  rw [hp, ptrK_some]
  refine ⟨by omega, by omega, ?_⟩
  rw [add_mk, show 0 + Int.toNat (j : Int) * 1 = j by omega, hr]
  rw [show (xs.map (Value.int k))[j]? = some (.int k (xs.getD j 0)) by simp [hj, List.getD], ldI_some]
  exact hQ
section
variable {lo : Nat} {h0 h h' : Heap} {r M S W N : Nat} {f : Int → Int} {p : Nat → Option Addr} {c : Nat → Nat} {L : Nat → List Int} {K : Value → Heap → Prop}
theorem rf_M (H : Rf lo h r M S W N f p c L) (hlo : h0.size ≤ lo) (O0 : Only [] h0 h) (O : Only [M] h h') : Only [] h0 h' :=
  O0.trans O fun b hb hlt => by have := H.ge; simp at hb; omega
theorem rf_S (H : Rf lo h r M S W N f p c L) (hlo : h0.size ≤ lo) (O0 : Only [] h0 h) (O : Only [S] h h') : Only [] h0 h' :=
  O0.trans O fun b hb hlt => by have := H.ge; simp at hb; omega
theorem rf_P (H : Rf lo h r M S W N f p c L) (hlo : h0.size ≤ lo) (O0 : Only [] h0 h) {k : Nat} (hk : k < W) (O : Only (S :: OwnB (p k)) h h') : Only [] h0 h' :=
  O0.trans O fun b hb hlt => by
    rcases List.mem_cons.1 hb with rfl | hb
    · have := H.ge; omega
    · have := (H.lt.2.2.2 k hk b hb).1; omega
end
theorem known27 {h : Heap} {K : Value → Heap → Prop} (hK : ∀ h', Only [] h h' → K (.bool true) h') : CallsH Try.prog 27 [] h K := by
  refine F27.spec h K ?_
  have hLB : LB = 140737488355328 := rfl
  unfold F27.w F27.J0
  refine new28 fun h1 r M S H1 O1 => ?_
  rw [show (wkI 2).toNat = 2 by decide] at H1
  rw [ldP_some, show Option.isNone (some (⟨r, 0, none⟩ : Addr)) = false from rfl, bcase_false]
  refine unp36 H1 (by omega) (fun _ => ?_) fun h => absurd rfl h
  rw [ldI_some, show ((61 : Int) != 61) = false by decide, bcase_false]
  refine push29 H1 (by omega) O1.size (fun h => absurd (by decide : (0 : Int) ≤ 1 ∧ (1 : Int) < ((2 : Nat) : Int)) h) fun k ek hk h2 p' c' H2 O2 hp2 => ?_
  have ek1 : k = 1 := by omega
  subst ek1
  rw [ldB_some, show (!true) = false from rfl, bcase_false]
  have OO2 := rf_P H1 (Nat.le_refl _) O1 hk O2
  refine push29 H2 (by omega) OO2.size (fun _ => ?_) fun k ek hk => by omega
  rw [ldB_some, bcase_false]
  refine prot33 H2 (by omega) (by omega) fun h3 H3 O3 => ⟨rfl, ?_⟩
  have OO3 := rf_M H2 (Nat.le_refl _) OO2 O3
  refine prot33 H3 (by omega) (by omega) fun h4 H4 O4 => ⟨rfl, ?_⟩
  have OO4 := rf_M H3 (Nat.le_refl _) OO3 O4
  refine prot33 H4 (by omega) (by omega) fun h5 H5 O5 => ⟨rfl, ?_⟩
  have OO5 := rf_M H4 (Nat.le_refl _) OO4 O5
  refine roots32 H5 (by omega) (by omega) fun h6 p6 c6 R hR hm Ow6 O6 => ?_
  have e : R = [5, 7] := by
    refine sorted_ext hR (by simp) fun x => ?_
    rw [hm x]
    simp only [List.mem_cons, List.not_mem_nil, or_false]
    constructor
    · rintro ⟨h1, h2 | ⟨k, hk, hx⟩⟩
      · unfold fup at h2
        by_cases a : x = 1
        · omega
        · rw [if_neg a] at h2
          by_cases b : x = 5
          · exact .inl b
          · rw [if_neg b, if_neg b] at h2
            exact absurd rfl h2
      · unfold pup at hx
        by_cases b : k = 1
        · rw [if_pos b] at hx
          right
          simpa using hx
        · rw [if_neg b] at hx
          cases hx
    · rintro (rfl | rfl)
      · exact ⟨by decide, .inl (by decide)⟩
      · exact ⟨by decide, .inr ⟨1, by decide, by decide⟩⟩
  subst e
  rw [ldS_some, show ((([5, 7] : List Int).length : Int) == 2) = true by decide, bcase_true]
  refine Ow6.ld (j := 0) rfl (by decide) ?_
  rw [show (([5, 7] : List Int).getD 0 0 == 5) = true by decide, bcase_true]
  refine Ow6.ld (j := 1) rfl (by decide) ?_
  rw [show (([5, 7] : List Int).getD 1 0 == 7) = true by decide, bcase_true]
  have H6 := H5.new O6
  refine count34 H6 ?_
  rw [ldI_some, show (fup (fup (fup (fun _ => 0) 5 ((fun _ => 0) 5 + 1)) 5 (fup (fun _ => 0) 5 ((fun _ => 0) 5 + 1) 5 + 1)) 1 (fup (fup (fun _ => 0) 5 ((fun _ => 0) 5 + 1)) 5 (fup (fun _ => 0) 5 ((fun _ => 0) 5 + 1) 5 + 1) 1 + 1) 5 == 2) = true by decide, bcase_true]
  refine unp36 H6 (by omega) (fun h => absurd h (by decide)) fun _ h7 H7 O7 => ?_
  rw [ldI_some, show ((0 : Int) == 0) = true by decide, bcase_true]
  refine depth31 H7 ?_
  rw [ldI_some]
  have OO7 := rf_M H6 (Nat.le_refl _) (OO5.trans O6 (by simp)) O7
  exact hK h7 OO7
end Go.Proofs.Ytipckkeaoncjiaa.Ev
