/- THE QUEUE by keys: what is in it; the laws' self-test. Conditions: none. -/
import Derived.Test.YtkdegjjenbbjfaaRnkE
import Derived.Test.YtkdegjjenbbjfaaL5F
namespace Go.Proofs.Ytkdegjjenbbjfaa.Ev
open Go

theorem mem_atL {L : List It} {y : It} (h : y ∈ L) : ∃ k, k < L.length ∧ atL L k = y := by
  obtain ⟨k, hk, e⟩ := List.mem_iff_getElem.1 h
  exact ⟨k, hk, by rw [← atL_get hk, e]⟩
theorem hasId_iff {L : List It} {id : Int} : hasId L id ↔ ∃ y ∈ L, y.1 = id := by
  constructor
  · rintro ⟨k, hk, e⟩
    exact ⟨_, atL_mem hk, e⟩
  · rintro ⟨y, hy, e⟩
    obtain ⟨k, hk, rfl⟩ := mem_atL hy
    exact ⟨k, hk, e⟩
theorem hasId_perm {L M : List It} {id : Int} (p : L.Perm M) : hasId L id ↔ ∃ y ∈ M, y.1 = id := by
  rw [hasId_iff]
  constructor
  · rintro ⟨y, hy, e⟩
    exact ⟨y, p.mem_iff.1 hy, e⟩
  · rintro ⟨y, hy, e⟩
    exact ⟨y, p.mem_iff.2 hy, e⟩
section
variable {h : Heap} {lo q pi mb : Nat} {p : Option Addr} {c : Nat} {L : List It}
theorem Qu.best (Q : Qu h lo q pi mb p c L) : ∀ y ∈ L, bet y (atL L 0) = false := by
  intro y hy
  obtain ⟨k, hk, rfl⟩ := mem_atL hy
  exact heap_top Q.heap k hk
theorem Qu.ids (Q : Qu h lo q pi mb p c L) : (L.map (·.1)).Nodup := by
  obtain ⟨f, -, hok⟩ := Q.pile.map
  rw [List.nodup_iff_pairwise_ne, List.pairwise_map, List.pairwise_iff_getElem]
  intro i j hi hj hij e
  rw [atL_get hi, atL_get hj] at e
  have := hok.inj hi hj e
  omega
theorem Qu.nil {h0 h' : Heap} (Q : Qu h lo q pi mb p c L) (O : Only [] h0 h) (hlo : h0.size ≤ lo) (O' : Only (pi :: mb :: OwnB p) h h') : Only [] h0 h' :=
  O.nil O' fun b hb => by
    have := (Q.lt b (List.mem_cons_of_mem _ hb)).1
    omega
end
/-- what is left behind a pop -/
theorem popped_ids {L M : List It} {x : It} (hp : (M ++ [x]).Perm L) (hn : (L.map (·.1)).Nodup) : ∀ y ∈ M, y.1 ≠ x.1 := by
  have h2 : ((M ++ [x]).map (·.1)).Nodup := (hp.map _).nodup_iff.2 hn
  rw [List.map_append] at h2
  intro y hy e
  exact (List.nodup_append.1 h2).2.2 y.1 (List.mem_map.2 ⟨y, hy, rfl⟩) x.1 (by simp) e

/-- an item of the call's own -/
theorem newIt {h : Heap} {n m : Int} {K : Nat → Heap → Prop} (hK : ∀ h', At h' h.size [.int .i64 n, .int .i64 m] → Only [] h h' → h'.size = h.size + 1 → K h.size h') :
    newK h (.cells #[(.int .i64 (0 : Int)), (.int .i64 (0 : Int))] 57) (fun b h1 => stK h1 (Addr.add (Addr.mk b 0 none) 0) (.int .i64 n) (fun h2 => stK h2 (Addr.add (Addr.mk b 0 none) 1) (.int .i64 m) (fun h3 => K b h3))) := by
  refine newK_at fun h6 A6 O6 z6 => ?_
  simp only [add_mk, Nat.zero_add]
  refine stK_at A6 (by simp) rfl fun h7 A7 O7 z7 => stK_at A7 (by simp) rfl fun h8 A8 O8 z8 => ?_
  exact hK h8 A8 (O6.nil (O7.trans O8 (by simp)) (by simp)) (by omega)
theorem known5 {h : Heap} {K : Value → Heap → Prop} (hK : ∀ h', Only [] h h' → K (.bool true) h') : CallsH Try.prog 29 [] h K := by
  apply F29.spec
  unfold F29.w F29.J0
  refine qnew30 fun q pi mb h1 Q1 O1 => ldP_of rfl ?_
  rw [Option.isNone_some, bcase_false]
  have s1 := O1.size
  refine qpush31 (x := (1, 5)) Q1 (by decide) s1 (fun hi => ?_) fun _ h2 p2 c2 L2 Q2 r2 O2 _ => ldB_of rfl ?_
  · obtain ⟨k, hk, -⟩ := hi
    simp at hk
  rw [Bool.not_true, bcase_false]
  have P2 := Q1.nil O1 (Nat.le_refl _) O2
  have n2 := r2.length_eq
  refine qpush31 (x := (3, 7)) Q2 (by rw [n2]; decide) P2.size (fun hi => ?_) fun _ h3 p3 c3 L3 Q3 r3 O3 _ => ldB_of rfl ?_
  · obtain ⟨y, hy, e⟩ := (hasId_perm r2).1 hi
    simp at hy
    subst hy
    cases e
  rw [Bool.not_true, bcase_false]
  have P3 := Q2.nil P2 (Nat.le_refl _) O3
  have r3' : L3.Perm [(1, 5), (3, 7)] := r3.trans (r2.append_right _)
  have n3 := r3'.length_eq
  refine qpush31 (x := (2, 7)) Q3 (by rw [n3]; decide) P3.size (fun hi => ?_) fun _ h4 p4 c4 L4 Q4 r4 O4 _ => ldB_of rfl ?_
  · obtain ⟨y, hy, e⟩ := (hasId_perm r3').1 hi
    simp at hy
    rcases hy with rfl | rfl <;> cases e
  rw [Bool.not_true, bcase_false]
  have P4 := Q3.nil P3 (Nat.le_refl _) O4
  have r4' : L4.Perm [(1, 5), (3, 7), (2, 7)] := r4.trans (r3'.append_right _)
  have n4 := r4'.length_eq
  refine qpush31 (x := (2, 9)) Q4 (by rw [n4]; decide) P4.size (fun _ => ldB_of rfl ?_) fun hn => absurd ((hasId_perm r4').2 ⟨(2, 7), by simp, rfl⟩) hn
  rw [bcase_false]
  refine qlen33 Q4 (ldI_of rfl ?_)
  rw [n4, show (((([(1, 5), (3, 7), (2, 7)] : List It).length : Int)) != (3 : Int)) = false from rfl, bcase_false]
  have hb := Q4.best
  have hx : atL L4 0 = (2, 7) := by
    have hm : atL L4 0 ∈ [((1, 5) : It), (3, 7), (2, 7)] := r4'.mem_iff.1 (atL_mem (by rw [n4]; decide))
    have b2 := hb (2, 7) (r4'.mem_iff.2 (by simp))
    simp only [List.mem_cons, List.not_mem_nil, or_false] at hm
    rcases hm with e | e | e
    · rw [e] at b2
      exact absurd b2 (by decide)
    · rw [e] at b2
      exact absurd b2 (by decide)
    · exact e
  refine qpop32 Q4 (by rw [n4]; decide) (fun e => by rw [e] at n4; cases n4) fun h5 M _ Q5 r5 O5 => ⟨_, _, _, rfl, ?_⟩
  rw [hx] at r5 ⊢
  have P5 := Q4.nil P4 (Nat.le_refl _) O5
  refine newIt fun h8 A8 O8 z8 => ?_
  rw [bcase_true]
  simp only [add_mk, Nat.zero_add]
  refine ldI_of (n := 2) (by rw [A8.rd]; rfl) (ldI_of (n := 7) (by rw [A8.rd]; rfl) ?_)
  rw [show ((2 : Int) == (2 : Int) && ((7 : Int) == (7 : Int) && true)) = true from rfl, bcase_true]
  have Q8 := Q5.only O8 (by simp)
  have P8 := P5.nil O8 (by simp)
  have r5' : M.Perm [(1, 5), (3, 7)] := (List.perm_append_right_iff [((2, 7) : It)]).1 (r5.trans r4')
  have n5 := r5'.length_eq
  refine qchange34 Q8 (by rw [n5]; decide) (fun hn => absurd ((hasId_perm r5').2 ⟨(1, 5), by simp, rfl⟩) hn) fun k h9 L9 hk hid Q9 r9 O9 => ldB_of rfl ?_
  rw [bcase_true]
  have P9 := Q8.nil P8 (Nat.le_refl _) O9
  refine qchange34 Q9 (by rw [r9.length_eq, List.length_set, n5]; decide) (fun _ => ldB_of rfl ?_) fun k' h10 L10 hk' hid' _ _ _ => ?_
  · exact hK _ P9
  · exfalso
    obtain ⟨y, hy, e⟩ := (hasId_perm r9).1 ⟨k', hk', hid'⟩
    rcases List.mem_or_eq_of_mem_set hy with hy | rfl
    · have := r5'.mem_iff.1 hy
      simp at this
      rcases this with rfl | rfl <;> cases e
    · cases e
end Go.Proofs.Ytkdegjjenbbjfaa.Ev
