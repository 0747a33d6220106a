/- ROWS: what is not wanted struck (slices.DeleteFunc). Conditions: the row stands (Arr). -/
import Derived.Test.YtipckkeaoncjiaaRefA
namespace Go.Proofs.Ytipckkeaoncjiaa.Ev
open Go

def okR (x : Int) : Bool := decide (1 < x)
structure Flt (i j : Nat) (g g' : Nat → Int) : Prop where
  ij : i ≤ j
  eq : (List.range i).map g' = ((List.range j).map g).filter okR
  rest : ∀ k, j ≤ k → g' k = g k
theorem Flt.keep {i j : Nat} {g g' : Nat → Int} (H : Flt i j g g') (h : 1 < g j) : Flt (i + 1) (j + 1) g (fun k => if k = i then g j else g' k) where
  ij := by have := H.ij; omega
  eq := by
    rw [List.range_succ, List.range_succ, List.map_append, List.map_append, List.filter_append, ← H.eq]
    congr 1
    · apply List.map_congr_left
      intro k hk
      rw [List.mem_range] at hk
      rw [if_neg (by omega)]
    · simp [okR, h]
  rest := fun k hk => by
    have := H.ij
    rw [if_neg (by omega)]
    exact H.rest k (by omega)
theorem Flt.drop {i j : Nat} {g g' : Nat → Int} (H : Flt i j g g') (h : ¬ 1 < g j) : Flt i (j + 1) g g' where
  ij := by have := H.ij; omega
  eq := by
    rw [H.eq, List.range_succ, List.map_append, List.filter_append]
    simp [okR, h]
  rest := fun k hk => H.rest k (by omega)
theorem Flt.all {i : Nat} {g : Nat → Int} (h : ∀ k, k < i → 1 < g k) : Flt i i g g where
  ij := Nat.le_refl _
  eq := by
    symm
    rw [List.filter_eq_self]
    intro x hx
    obtain ⟨k, hk, rfl⟩ := List.mem_map.1 hx
    rw [List.mem_range] at hk
    simp [okR, h k hk]
  rest := fun k _ => rfl
theorem del53 {x : Int} {h : Heap} {K : Value → Heap → Prop} (hK : K (.bool (!okR x)) h) : dynK Try.prog X (.func (.func 53) #[] #[]) [.int .u32 x] h K :=
  dynK_go (by kernel_rfl) (F53.spec x h K (by
    unfold F53.w F53.J0
    rw [show decide (x ≤ 1) = !okR x by unfold okR; by_cases h : 1 < x <;> simp [h] <;> omega]
    exact hK))
section
variable {b n c : Nat} {g : Nat → Int} {K : Value → Heap → Prop}
theorem idx69 {h : Heap} {sp : List Value} (A : Arr .u32 h b n g sp) (hn : n ≤ LB / 4) (hK : ∀ i : Nat, i < n → (∀ k, k < i → 1 < g k) → ¬ 1 < g i → K (.int .i64 (i : Int)) h) (hN : (∀ k, k < n → 1 < g k) → K (.int .i64 (-1)) h) :
    CallsH Try.prog 69 [.slice (some ⟨b, 0, none⟩) n c, .func (.func 53) #[] #[]] h K := by
  refine F69.spec _ _ _ h K ?_
  have hLB : LB = 140737488355328 := rfl
  unfold F69.w F69.J0 F69.wk2 F69.Jk2
  have main : ∀ (d i : Nat), i + d = n → (∀ k, k < i → 1 < g k) → F69.wL2 (d + 1) (some ⟨b, 0, none⟩) n c (.func (.func 53) #[] #[]) n i h K := by
    intro d
    induction d with
    | zero =>
      intro i hd hi
      unfold F69.wL2 F69.JL2
      rw [show decide ((i : Int) < (n : Int)) = false by simp; omega, bcase_false]
      exact hN fun k hk => hi k (by omega)
    | succ d ih =>
      intro i hd hi
      unfold F69.wL2 F69.JL2
      rw [show decide ((i : Int) < (n : Int)) = true by simp; omega, bcase_true]
      refine A.ld rfl (by omega) (del53 ?_)
      rw [ldB_some]
      refine bcase_of (fun ho => ?_) fun ho => ?_
      · exact hK i (by omega) hi (by simpa [okR] using ho)
      · rw [show IntKind.wrap .i64 ((i : Int) + 1) = ((i + 1 : Nat) : Int) by rw [wrapN (by omega) (by omega)]; omega]
        refine ih (i + 1) (by omega) fun k hk => ?_
        by_cases e : k = i
        · subst e; simpa [okR] using ho
        · exact hi k (by omega)
  exact ⟨_, main n 0 (by omega) fun k hk => by omega⟩
theorem end52 {h0 h : Heap} {k : Nat} {g' : Nat → Int} {sp : List Value} (A : Arr .u32 h b n g' sp) (hk : k ≤ n) (hc : n ≤ c) (O : Only [b] h0 h)
    (hK : ∀ h' sp', Arr .u32 h' b k g' sp' → sp'.length = n - k + sp.length → Only [b] h0 h' → K (.slice (some ⟨b, 0, none⟩) k c) h') : F52.wk11 (some ⟨b, 0, none⟩) n c k h K := by
  unfold F52.wk11 F52.Jk11
  refine ⟨by omega, by omega, ?_⟩
  rw [Int.toNat_natCast]
  refine A.clr hk rfl hc fun h' sp' A' hl O' => ⟨by omega, by omega, ?_⟩
  have e : (if c = 0 then (some (⟨b, 0, none⟩ : Addr)) else Option.map (fun a => Addr.add a (0 * 1)) (some ⟨b, 0, none⟩)) = some ⟨b, 0, none⟩ := by
    split
    · rfl
    · simp
  rw [e]
  exact hK h' sp' A' hl (O.trans O' (by simp))
theorem out52 {sp : List Value} (hc : n ≤ c) (hn : n ≤ LB / 4) {hh : Heap} :
    ∀ (d j i : Nat) (g' : Nat → Int) (h : Heap), j + d = n → i < j → Arr .u32 h b n g' sp → Flt i j g g' → Only [b] hh h →
      (∀ h' k g'' sp', Arr .u32 h' b k g'' sp' → sp'.length = n - k + sp.length → k ≤ n → (List.range k).map g'' = ((List.range n).map g).filter okR → Only [b] hh h' → K (.slice (some ⟨b, 0, none⟩) k c) h') →
      F52.wL5 (d + 1) (some ⟨b, 0, none⟩) n c (.func (.func 53) #[] #[]) i j h K := by
  intro d
  have hLB : LB = 140737488355328 := rfl
  induction d with
  | zero =>
    intro j i g' h hd hij A C O hK
    unfold F52.wL5 F52.JL5
    rw [show decide ((j : Int) < (n : Int)) = false by simp; omega, bcase_false]
    have : j = n := by omega
    subst this
    exact end52 A (by omega) hc O fun h' sp' A' hl O' => hK h' i g' sp' A' hl (by omega) C.eq O'
  | succ d ih =>
    intro j i g' h hd hij A C O hK
    unfold F52.wL5 F52.JL5
    rw [show decide ((j : Int) < (n : Int)) = true by simp; omega, bcase_true, show IntKind.wrap .i64 ((j : Int) + 1) = ((j + 1 : Nat) : Int) by rw [wrapN (by omega) (by omega)]; omega]
    refine A.ld rfl (by omega) (del53 ?_)
    rw [ldB_some]
    have ej : g' j = g j := C.rest j (Nat.le_refl _)
    refine bcase_of (fun ho => ?_) fun ho => ?_
    · have ho' : 1 < g j := by rw [← ej]; simpa [okR] using ho
      refine A.sto rfl (by omega) fun h1 A1 O1 => ?_
      rw [ej] at A1
      rw [show IntKind.wrap .i64 ((i : Int) + 1) = ((i + 1 : Nat) : Int) by rw [wrapN (by omega) (by omega)]; omega]
      exact ih (j + 1) (i + 1) _ h1 (by omega) (by omega) A1 (C.keep ho') (O.trans O1 (by simp)) hK
    · have ho' : ¬ 1 < g j := by rw [← ej]; simpa [okR] using ho
      exact ih (j + 1) i g' h (by omega) (by omega) A (C.drop ho') O hK
/-- slices.DeleteFunc of what is not more than True -/
theorem del52 {h : Heap} {sp : List Value} (A : Arr .u32 h b n g sp) (hc : n ≤ c) (hn : n ≤ LB / 4)
    (hK : ∀ h' k g' sp', Arr .u32 h' b k g' sp' → sp'.length = n - k + sp.length → k ≤ n → (List.range k).map g' = ((List.range n).map g).filter okR → Only [b] h h' → K (.slice (some ⟨b, 0, none⟩) k c) h') :
    CallsH Try.prog 52 [.slice (some ⟨b, 0, none⟩) n c, .func (.func 53) #[] #[]] h K := by
  refine F52.spec _ _ _ h K ?_
  have hLB : LB = 140737488355328 := rfl
  unfold F52.w F52.J0
  refine idx69 A hn (fun i hi h1 h2 => ?_) fun h1 => ?_
  · rw [ldI_some, show ((i : Int) == (-1)) = false by simp, bcase_false, show IntKind.wrap .i64 ((i : Int) + 1) = ((i + 1 : Nat) : Int) by rw [wrapN (by omega) (by omega)]; omega]
    unfold F52.wk5 F52.Jk5
    exact ⟨_, out52 hc hn (n - (i + 1)) (i + 1) i g h (by omega) (by omega) A ((Flt.all h1).drop h2) (Only.refl _ _) hK⟩
  · rw [ldI_some, show ((-1 : Int) == (-1)) = true by decide, bcase_true]
    exact hK h n g sp A (by omega) (Nat.le_refl _) (Flt.all h1).eq (Only.refl _ _)
end
theorem del52nil {h : Heap} {c : Nat} {p : Option Addr} {K : Value → Heap → Prop} (hK : K (.slice p 0 c) h) : CallsH Try.prog 52 [.slice p 0 c, .func (.func 53) #[] #[]] h K := by
  refine F52.spec _ _ _ h K ?_
  unfold F52.w F52.J0
  refine F69.spec _ _ _ h _ ?_
  unfold F69.w F69.J0 F69.wk2 F69.Jk2
  refine ⟨1, ?_⟩
  unfold F69.wL2 F69.JL2
  rw [show decide ((0 : Int) < ((0 : Nat) : Int)) = false by decide, bcase_false]
  dsimp only
  rw [ldI_some, show ((-1 : Int) == (-1)) = true by decide, bcase_true]
  exact hK
end Go.Proofs.Ytipckkeaoncjiaa.Ev
