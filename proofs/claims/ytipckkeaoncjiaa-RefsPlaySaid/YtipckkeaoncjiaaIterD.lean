/- COLLECTING (slices.AppendSeq over a map's keys), as a call seen from the heap. Conditions: the map stands; the slice is none yet. -/
import Derived.Test.YtipckkeaoncjiaaIterC
import Derived.Shelf.Abstract
namespace Go.Proofs.Ytipckkeaoncjiaa.Ev
open Go Go.RowKit Go.Maps Go.Shelf

set_option maxRecDepth 100000 in
set_option maxHeartbeats 2000000 in
theorem appSeq_in {F : Fence} {n : Nat} (h65 : F.fn 65) (h66 : F.fn 66) (hro : F.round = none) (hn : 2 ≤ n) (Bm b : Nat) (m : List (Int × Value)) (w : World) (A : At w.heap Bm [.map (some b)]) (M : MapM w.heap b .u32 m)
    (hwf : ∀ x ∈ m.map (·.1), (Lit.int .u32 x).wf = true) (hsz : m.length * 4 ≤ 140737488355328) :
    CallsIn F n Try.prog 65 #[.slice none 0 0, .func (.func 66) #[] #[.pointer (some ⟨Bm, 0, none⟩)]] w fun e w' => ∃ (p : Option Addr) (c : Nat) (ss : List Int), e = .returned (.slice p ss.length c) ∧ ss.Perm (m.map (·.1)) ∧
      Own w'.heap (w.heap.size + 1) 1 p ss.length c (ss.map (Value.int .u32)) ∧ Only [] w.heap w'.heap ∧ Same w w' := by
  have h1 : 1 ≤ n := by omega
  have hnd : (m.map (·.1)).Nodup := by obtain ⟨_, _, _, _, h, _⟩ := M; exact h
  have eg : ∀ args w, (callFunc 66 args).run Try.prog w = .ok (.enter 66 args) w := enters_of Try.func66 (by kernel_rfl) rfl
  refine callsIn_of_wp_marks Try.func65 rfl h65 ?_ hro
  simp only [Try.ntmps65, List.size_toArray, List.length_cons, List.length_nil, Nat.reduceAdd, Nat.reduceSub, Array.replicate_succ, Array.replicate_zero, List.push_toArray, List.append_toArray, List.nil_append, List.cons_append]
  gi_wp2
  refine wpIn_rangeFunc ?_
  intro fn hfn
  rw [hro]
  obtain ⟨W0, hW0⟩ : ∃ W0, w.alloc (.cells #[.slice none 0 0] 61) = W0 := ⟨_, rfl⟩
  have hs0 : W0.heap.size = w.heap.size + 1 := by rw [← hW0]; simp
  have O0 : Only [] w.heap W0.heap := by rw [← hW0]; exact Only.push_cells _ _ _
  have A0 : At W0.heap w.heap.size [.slice none 0 0] := by rw [← hW0]; exact At.push _ _ _
  have S0 : Same w W0 := by rw [← hW0]; exact ⟨rfl, rfl, rfl⟩
  rw [hW0]
  obtain ⟨W1, hW1⟩ : ∃ W1, (W0.alloc (.deferred (some []))).alloc (.loop (apRec fn (.func (.func 66) #[] #[.pointer (some ⟨Bm, 0, none⟩)]) w.heap.size W0.heap.size .ready none)) = W1 := ⟨_, rfl⟩
  have O1 : Only [] W0.heap W1.heap := by rw [← hW1]; exact (Only.allocW W0 rfl).trans (Only.allocW _ rfl) (by simp)
  have hs1 : W1.heap.size = W0.heap.size + 2 := by rw [← hW1]; simp
  have S1 : Same W0 W1 := by rw [← hW1]; exact ⟨rfl, rfl, rfl⟩
  have OW := O0.trans O1 (by simp)
  have hM : ApAt w fn (.func (.func 66) #[] #[.pointer (some ⟨Bm, 0, none⟩)]) w.heap.size (W0.heap.size + 1) W0.heap.size [] W1 :=
    ⟨⟨none, 0, A0.only O1 (by simp), Own.nil _ _ _⟩,
     by rw [← hW1]; have := World.alloc_heap_new (W0.alloc (.deferred (some []))) (.loop (apRec fn (.func (.func 66) #[] #[.pointer (some ⟨Bm, 0, none⟩)]) w.heap.size W0.heap.size .ready none)); rwa [World.size_alloc] at this,
     by rw [← hW1]; exact (Below.heap_alloc _ _ _ (by simp)).trans (World.alloc_heap_new W0 _), OW, S0.trans S1⟩
  obtain ⟨D0, hown, hD1, hD2⟩ := owns_of u58 (M.only OW (by simp)) hwf (by simp [maxLen]; omega)
  refine ⟨W0.heap.size + 1, [{ target := .collected W0.heap.size, args := #[] }], W1, { target := .fn (.func 66) #[.pointer (some ⟨Bm, 0, none⟩)], args := #[.func (.yield (W0.heap.size + 1)) #[] #[]] }, W1, 66,
    #[.func (.yield (W0.heap.size + 1)) #[] #[]] ++ #[.pointer (some ⟨Bm, 0, none⟩)], W1, ?_, ?_, ?_, ?_, fun _ => h1, ?_⟩
  · rw [← hW1]; exact run_enterLoop_outer _ _ _ _ _
  · simp [resolve, go_sem]
  · intro f' hf'; simp [Target.leads] at hf'; subst hf'; exact h66
  · simp [invoke, go_sem, eg]
  · refine (keysN (F := F) (n := n - 1) h66 hro (by omega) (W0.heap.size + 1) Bm b m.length D0 (ApAt w fn (.func (.func 66) #[] #[.pointer (some ⟨Bm, 0, none⟩)]) w.heap.size (W0.heap.size + 1) W0.heap.size)
      (fun pre x W hJ hl => apYield (F := F) (m := n - 1 - 1) w fn hfn _ w.heap.size (W0.heap.size + 1) W0.heap.size (by omega) (by omega) (by omega) (Nat.le_refl _) (by omega) m.length hsz pre x W hJ (by omega)) W1 (ap_abides _ _ _ _ _ _ _ (by omega))
      ((A.only OW (by simp)).rd 0) hown hM).mono ?_
    rintro e W2 ⟨⟨v0, rfl⟩, ss, h2, left, hC, hl⟩
    obtain ⟨p, c, A2, H2⟩ := h2.box
    have hend := run_endLoop (P := Try.prog) h2.L (by simp [apRec])
    obtain ⟨W3, hW3⟩ : ∃ W3, W2.putObj (W0.heap.size + 1) (.loop { apRec fn (.func (.func 66) #[] #[.pointer (some ⟨Bm, 0, none⟩)]) w.heap.size W0.heap.size .ready none with state := .exhausted }) = W3 := ⟨_, rfl⟩
    rw [hW3] at hend
    have O3 : Only [W0.heap.size + 1] W2.heap W3.heap := by rw [← hW3]; exact Only.putW _ h2.L rfl rfl
    have S3 : Same W2 W3 := by rw [← hW3]; exact ⟨rfl, rfl, rfl⟩
    have hnl : ∀ b, (∃ c, At W2.heap b c) → b ∉ [W0.heap.size + 1] := fun b ⟨c, A⟩ hb => A.ne_obj h2.L rfl (by simpa using hb)
    have A3 := A2.only O3 (hnl _ ⟨_, A2⟩)
    have H3 := H2.onlyC O3 fun b _ hc => hnl b hc
    have hK3 : W3.heap[W0.heap.size]? = some (.deferred (some [])) := by rw [← hW3]; exact (World.putObj_heap_other (by omega)).trans h2.K
    have hc3 : W3.cell? ⟨w.heap.size, 0, none⟩ = some (.slice p ss.length c) := A3.rd 0
    have hf3 : W3.frozen? ⟨w.heap.size, 0, none⟩ = false := A3.fz 0 none
    clear hW3
    refine ⟨none, W3, hend, ?_⟩
    gi_wp2
    rw [← hs0]
    refine ⟨by simp, .inl ⟨_, _, rfl, run_takeDeferred hK3, ?_⟩⟩
    have O4 : Only [W0.heap.size] W3.heap (W3.putObj W0.heap.size (.deferred none)).heap := Only.putW _ hK3 rfl rfl
    have hF := H3.onlyC O4 (fun b _ hc hb => by obtain ⟨c, A⟩ := hc; exact A.ne_obj hK3 rfl (by simpa using hb))
    rw [← hs0] at hF
    exact ⟨_, results_tmp rfl _ _ _, p, c, ss, rfl, hC.perm hl hnd hD2, hF,
      (h2.only.trans O3 (by intro b hb hlt; simp at hb; omega)).trans O4 (by intro b hb hlt; simp at hb; omega), (h2.same.trans S3).trans ⟨rfl, rfl, rfl⟩⟩
theorem appSeq {h : Heap} {Bm b : Nat} {m : List (Int × Value)} {K : Value → Heap → Prop} (A : At h Bm [.map (some b)]) (M : MapM h b .u32 m)
    (hwf : ∀ x ∈ m.map (·.1), (Lit.int .u32 x).wf = true) (hsz : m.length * 4 ≤ 140737488355328)
    (hK : ∀ (p : Option Addr) (c : Nat) (h' : Heap) (ss : List Int), ss.Perm (m.map (·.1)) → Own h' (h.size + 1) 1 p ss.length c (ss.map (Value.int .u32)) → Only [] h h' → K (.slice p ss.length c) h') :
    CallsH Try.prog 65 [.slice none 0 0, .func (.func 66) #[] #[.pointer (some ⟨Bm, 0, none⟩)]] h K := fun w hw => by
  subst hw
  refine ((callsIn_wide (n := 2)).1 (appSeq_in (F := Fence.wide) (n := 2) trivial trivial rfl (by omega) Bm b m w A M hwf hsz)).mono ?_
  rintro e w' ⟨p, c, ss, rfl, h1, h2, h3, h4⟩
  exact ⟨_, rfl, h4, hK p c _ ss h1 h2 h3⟩
end Go.Proofs.Ytipckkeaoncjiaa.Ev
