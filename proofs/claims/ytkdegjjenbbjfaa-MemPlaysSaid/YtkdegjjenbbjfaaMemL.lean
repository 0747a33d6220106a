/- THE LAWS OF CELLS: the self-test holds; the law of bounds holds. Conditions: none. -/
import Derived.Test.YtkdegjjenbbjfaaMemC
import Derived.Test.YtkdegjjenbbjfaaL2F
import Derived.Test.YtkdegjjenbbjfaaEvK
namespace Go.Proofs.Ytkdegjjenbbjfaa.Ev
open Go

theorem Only.nil {h h' h'' : Heap} {S : List Nat} (A : Only [] h h') (B : Only S h' h'') (hS : ∀ b ∈ S, h.size ≤ b) : Only [] h h'' :=
  A.trans B fun b hb hl => absurd (hS b hb) (by omega)

theorem known_spec {h : Heap} {K : Value → Heap → Prop} (hK : ∀ h', Only [] h h' → K (.bool true) h') : CallsH Try.prog 13 [] h K := by
  apply F13.spec
  unfold F13.w F13.J0
  refine new_spec fun m c h1 M1 O1 hm hc => ?_
  rw [show List.replicate (cellsFor 3) (0 : Int) = [0, 0, 0] from rfl] at M1
  have hS : ∀ b ∈ [m, c], h.size ≤ b := by simp [hm, hc]
  simp only [ldP_some, Option.isNone_some, Bool.not_false, bcase_true]
  refine len_spec M1 ?_
  simp only [ldI_some, List.length_cons, List.length_nil, Nat.zero_add, Nat.reduceAdd, Int.cast_ofNat_Int, BEq.rfl, bcase_true]
  refine cas_in M1 (by decide) (by decide) (fun _ h2 M2 O2 => ?_) fun e => absurd rfl e
  have P2 := O1.nil O2 hS
  simp only [ldB_some, bcase_true]
  refine cas_in M2 (by decide) (by decide) (fun e => absurd e (by decide)) fun e h3 M3 O3 => ?_
  have P3 := P2.nil O3 hS
  simp only [ldB_some, Bool.not_false, bcase_true]
  refine load_in M3 (by decide) (by decide) fun h4 M4 O4 => ?_
  have P4 := P3.nil O4 hS
  refine ldI_of rfl ?_
  rw [show ((([0, 0, 0] : List Int).set (Int.toNat 0) 5).getD (Int.toNat 0) 0 == 5) = true from rfl, bcase_true]
  refine add_in M4 (by decide) (by decide) fun h5 M5 O5 => ?_
  have P5 := P4.nil O5 hS
  refine ldI_of rfl ?_
  rw [show (IntKind.wrap .u64 ((([0, 0, 0] : List Int).set (Int.toNat 0) 5).getD (Int.toNat 0) 0 + 2) == 7) = true from rfl, bcase_true]
  refine fails_spec M5 ?_
  refine ldI_of rfl ?_
  rw [show (up 0 == 1) = true from rfl, bcase_true]
  refine ops_spec M5 ?_
  refine ldI_of rfl ?_
  rw [show (up (up (up (up 0))) == 4) = true from rfl, bcase_true]
  refine load_out M5 (Or.inr (by decide)) ?_
  refine ldI_of rfl ?_
  rw [show ((0 : Int) == 0) = true from rfl, bcase_true]
  refine ops_spec M5 ?_
  refine ldI_of rfl ?_
  exact hK _ P5

theorem bounds_law (h : Heap) (n : Int) (_ : IntKind.min .i64 ≤ n ∧ n ≤ IntKind.max .i64) (i : Int) (_ : IntKind.min .i64 ≤ i ∧ i ≤ IntKind.max .i64) (v : Int) (_ : IntKind.min .u64 ≤ v ∧ v ≤ IntKind.max .u64) : CallsH Try.prog 8 [.int .i64 n, .int .i64 i, .int .u64 v] h (Lawful h) := by
  apply F8.spec
  unfold F8.w F8.J0
  refine known_spec fun h1 O1 => ?_
  simp only [ldB_some, Bool.not_true, bcase_false]
  have main : ∀ n : Int, F8.wk5 n i v h1 (Lawful h) := by
    intro n
    unfold F8.wk5 F8.Jk5
    refine new_spec fun m c h2 M2 O2 hm hc => ?_
    simp only [ldP_some]
    refine len_spec M2 ?_
    rw [List.length_replicate]
    have hS : ∀ b ∈ [m, c], h1.size ≤ b := by simp [hm, hc]
    have e : (if (if (262144 : Int) < n then (262144 : Int) else n) > (0 : Int) then (if (262144 : Int) < n then (262144 : Int) else n) else (0 : Int)) = (cellsFor n : Int) := by
      unfold cellsFor
      split <;> split <;> omega
    rw [e]
    refine ldI_of rfl ?_
    rw [bne_self_eq_false, bcase_false]
    by_cases hin : 0 ≤ i ∧ i < (cellsFor n : Int)
    · obtain ⟨h0, hl⟩ := hin
      have hn : i.toNat < cellsFor n := by omega
      refine store_in M2 h0 (by simpa using hl) fun h3 M3 O3 => ⟨rfl, ?_⟩
      have P3 := O2.nil O3 hS
      rw [decide_eq_true (by omega : i ≥ 0), bcase_true, decide_eq_true hl]
      unfold F8.wk11 F8.Jk11
      rw [Bool.not_true, bcase_false]
      have hg : ((List.replicate (cellsFor n) (0 : Int)).set i.toNat v).getD i.toNat 0 = v := by simp [hn]
      refine load_in M3 h0 (by simpa using hl) fun h4 M4 O4 => ?_
      have P4 := P3.nil O4 hS
      refine ldI_of rfl ?_
      rw [hg, BEq.rfl, bcase_true]
      refine add_in M4 h0 (by simpa using hl) fun h5 M5 O5 => ?_
      have P5 := P4.nil O5 hS
      refine ldI_of rfl ?_
      rw [hg, BEq.rfl, bcase_true]
      refine ops_spec M5 ?_
      refine ldI_of rfl ⟨rfl, ?_⟩
      exact O1.trans P5 (by simp)
    · have ho : i < 0 ∨ ((List.replicate (cellsFor n) (0 : Int)).length : Int) ≤ i := by simp; omega
      refine store_out M2 ho ⟨rfl, ?_⟩
      have main2 : F8.wk11 i v (some ⟨m, 0, none⟩) false h2 (Lawful h) := by
        unfold F8.wk11 F8.Jk11
        rw [Bool.not_false, bcase_true]
        refine load_out M2 ho ?_
        refine ldI_of rfl ?_
        rw [BEq.rfl, bcase_true]
        refine cas_out M2 ho ?_
        simp only [ldB_some, Bool.not_false, bcase_true]
        refine add_out M2 ho ?_
        refine ldI_of rfl ?_
        rw [BEq.rfl, bcase_true]
        refine ops_spec M2 ?_
        refine ldI_of rfl ?_
        rw [BEq.rfl, bcase_true]
        refine fails_spec M2 ?_
        exact ldI_of rfl ⟨rfl, O1.trans O2 (by simp)⟩
      refine bcase_of (fun h0 => ?_) fun _ => main2
      rw [decide_eq_false (by simp at h0; omega)]
      exact main2
  exact bcase_of (fun _ => bcase_of (fun _ => main _) fun _ => main _) fun _ => main _
end Go.Proofs.Ytkdegjjenbbjfaa.Ev
