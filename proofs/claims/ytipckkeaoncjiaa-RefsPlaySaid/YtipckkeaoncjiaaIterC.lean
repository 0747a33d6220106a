/- COLLECTING (slices.AppendSeq over a map's keys). Conditions: the map stands; the slice is none yet. -/
import Derived.Test.YtipckkeaoncjiaaIterB
namespace Go.Proofs.Ytipckkeaoncjiaa.Ev
open Go Go.RowKit Go.Maps

def pickC : Code → Option (Code × Code)
  | .seq a b => (pickC a).or (pickC b)
  | .block _ c => pickC c
  | .rangeFunc _ _ a b => some (a, b)
  | _ => none
noncomputable def apAssign : Code := ((Try.f65.body.bind pickC).map (·.1)).getD .skip
noncomputable def apBody : Code := ((Try.f65.body.bind pickC).map (·.2)).getD .skip
/-- the loop's record -/
noncomputable def apRec (fn : FuncId) (sv : Value) (Bs D : Nat) (st : LoopState) (pend : Option Code) : Loop :=
  { state := st, pending := pend, fn, tmps := #[.slice none 0 0, sv, .pointer (some ⟨Bs, 0, none⟩), undef, .slice none 0 0, undef, sv, undef, undef, undef, undef, undef, undef], params := #[7], assign := apAssign, body := apBody, defers := D }
structure ApAt (w0 : World) (fn : FuncId) (sv : Value) (Bs l D : Nat) (ss : List Int) (W : World) : Prop where
  box : ∃ p c, At W.heap Bs [.slice p ss.length c] ∧ Own W.heap (Bs + 1) 1 p ss.length c (ss.map (Value.int .u32))
  L : W.heap[l]? = some (.loop (apRec fn sv Bs D .ready none))
  K : W.heap[D]? = some (.deferred (some []))
  only : Only [] w0.heap W.heap
  same : Same w0 W
theorem At.notWalk {h : Heap} {b r : Nat} {c : List Value} (A : At h b c) (hr : ∃ o : Obj, h[r]? = some o ∧ o.isWalk = true) : b ≠ r := by
  obtain ⟨e, A⟩ := A
  obtain ⟨o, hr, hw⟩ := hr
  intro e'
  subst e'
  rw [A] at hr
  cases hr
  cases hw
theorem Own.onlyC {h h' : Heap} {lo N : Nat} {p : Option Addr} {l c : Nat} {cs : List Value} {S : List Nat} (H : Own h lo N p l c cs) (O : Only S h h') (hS : ∀ b ∈ OwnB p, (∃ c, At h b c) → b ∉ S) : Own h' lo N p l c cs := by
  obtain ⟨e, H⟩ := H
  rcases H with H | ⟨b, sp, h1, h2, h3, h4, h5⟩
  · exact ⟨e, Or.inl H⟩
  · exact ⟨e, Or.inr ⟨b, sp, h1, h2, h3, h4, h5.only O (hS b (by subst h1; simp [OwnB]) ⟨_, h5⟩)⟩⟩
theorem Own.cells {h : Heap} {lo N : Nat} {p : Option Addr} {l c : Nat} {cs : List Value} (H : Own h lo N p l c cs) : ∀ b ∈ OwnB p, ∃ c, At h b c := by
  obtain ⟨e, H⟩ := H
  rcases H with ⟨rfl, _⟩ | ⟨b, sp, rfl, h2, h3, h4, h5⟩
  · intro b hb; simp [OwnB] at hb
  · intro b' hb
    simp [OwnB] at hb
    subst hb
    exact ⟨_, h5⟩
theorem Same.of_grown {W W' : World} {row : Option Nat} (hg : W.grownBy W' row) : Same W W' := grown_same hg
theorem ap_abides (w0 : World) (fn : FuncId) (sv : Value) (Bs l D B : Nat) (hB : w0.heap.size ≤ B) : AbidesZ B (ApAt w0 fn sv Bs l D) := fun s W W' row h hg hf hrow => by
  have hrow' : ∀ r, row = some r → ∃ o : Obj, W.heap[r]? = some o ∧ o.isWalk = true := fun r e => (hrow r e).2
  have O := grown_only hg hf
  have hno : ∀ b, (∃ c, At W.heap b c) → b ∉ row.toList := fun b ⟨c, A⟩ hb => by
    cases row with
    | none => simp at hb
    | some r => simp at hb; exact A.notWalk (hrow' r rfl) hb
  obtain ⟨p, c, A, H⟩ := h.box
  exact ⟨⟨p, c, A.only O (hno _ ⟨_, A⟩), H.onlyC O fun b _ hc => hno b hc⟩, (grownBy_keeps hg hrow' h.L rfl).trans h.L, (grownBy_keeps hg hrow' h.K rfl).trans h.K,
    h.only.trans O (fun b hb hlt => by
      cases row with
      | none => simp at hb
      | some r =>
        simp at hb
        have := (hrow r rfl).1
        omega), h.same.trans (Same.of_grown hg)⟩
theorem keeps_only {S : List Nat} {W W' : World} (O : Only S W.heap W'.heap) (h : ∀ r ∈ S, ∀ o : Obj, W.heap[r]? = some o → o.isWalk = false) : KeepsWalks W W' :=
  ⟨O.size, fun k o hk ho => (O.same k (Array.getElem?_eq_some_iff.1 hk).1 (fun hS => by rw [h k hS o hk] at ho; cases ho)).trans hk⟩
theorem At.ne_obj {h : Heap} {b r : Nat} {c : List Value} (A : At h b c) {o : Obj} (hr : h[r]? = some o) (ho : o.isCells = false) : b ≠ r := by
  obtain ⟨e, A⟩ := A
  intro e'
  subst e'
  rw [A] at hr
  cases hr
  cases ho
theorem At.walkF {h : Heap} {b : Nat} {c : List Value} (A : At h b c) : ∀ o : Obj, h[b]? = some o → o.isWalk = false := by
  obtain ⟨e, A⟩ := A
  intro o ho
  rw [A] at ho
  cases ho
  rfl
theorem sB58 : sizeB Try.prog 58 = some (1, 4, #[.int .u32 0]) := by kernel_rfl
set_option maxRecDepth 100000 in
set_option maxHeartbeats 2000000 in
theorem apYield {F : Fence} {m : Nat} (w0 : World) (fn : FuncId) (hfn : F.fn fn) (sv : Value) (Bs l D : Nat) (hBl : Bs ≠ l) (hDl : D ≠ l) (hDB : D ≠ Bs) (h0B : w0.heap.size ≤ Bs) (h0l : w0.heap.size ≤ l)
    (N : Nat) (hN : N * 4 ≤ 140737488355328) (ss : List Int) (x : Int) (W : World) (h : ApAt w0 fn sv Bs l D ss W) (hlen : ss.length < N) :
    YieldAt F m Try.prog l #[.int .u32 x] W fun e W' => e = .returned (.bool true) ∧ ApAt w0 fn sv Bs l D (ss ++ [x]) W' ∧ KeepsWalks W W' := by
  obtain ⟨p, c, A, H⟩ := h.box
  refine ⟨fn, #[.slice none 0 0, sv, .pointer (some ⟨Bs, 0, none⟩), undef, .slice none 0 0, undef, sv, .int .u32 x, undef, undef, undef, undef, undef], apAssign, apBody, by simpa [apRec] using run_yield (P := Try.prog) (args := #[.int .u32 x]) h.L rfl, roundIn_of_wpIn hfn ?_⟩
  have hl : l < W.heap.size := (Array.getElem?_eq_some_iff.1 h.L).1
  have hbr := run_beginRound (P := Try.prog) h.L rfl
  obtain ⟨W2, hW2⟩ : ∃ W2, W.putObj l (.loop { apRec fn sv Bs D .ready none with state := .busy }) = W2 := ⟨_, rfl⟩
  rw [hW2] at hbr
  have hnl : ∀ b, (∃ c, At W.heap b c) → b ∉ [l] := fun b ⟨c, A⟩ hb => A.ne_obj h.L rfl (by simpa using hb)
  have O2 : Only [l] W.heap W2.heap := by rw [← hW2]; exact Only.putW _ h.L rfl rfl
  have A2 : At W2.heap Bs [.slice p ss.length c] := A.only O2 (hnl _ ⟨_, A⟩)
  have H2 := H.onlyC O2 fun b _ hc => hnl b hc
  have hK2 : W2.heap[D]? = some (.deferred (some [])) := by rw [← hW2]; exact (World.putObj_heap_other hDl).trans h.K
  have hL2 : W2.heap[l]? = some (.loop { apRec fn sv Bs D .ready none with state := .busy }) := by rw [← hW2]; exact World.putObj_heap_same hl
  have S2 : Same W W2 := by rw [← hW2]; exact ⟨rfl, rfl, rfl⟩
  have hc2 : W2.cell? ⟨Bs, 0, none⟩ = some (.slice p ss.length c) := A2.rd 0
  have hf2 : W2.frozen? ⟨Bs, 0, none⟩ = false := A2.fz 0 none
  have A3 : At (W2.alloc (.cells #[.int .u32 x] 58)).heap W2.heap.size [.int .u32 x] := At.push _ _ _
  have O3 : Only [] W2.heap (W2.alloc (.cells #[.int .u32 x] 58)).heap := Only.push_cells _ _ _
  have H3 := H2.onlyC O3 fun b _ _ => by simp
  have A3' := A2.only O3 (by simp)
  have hBlt := A2.lt
  have hz3 := O3.size
  clear hW2
  simp only [apAssign, Try.f65, pickC, Option.bind_some, Option.map_some, Option.getD_some, Option.none_or, Option.some_or]
  gi_wp2_with (rw [Oper.semAt_eq _ _ _ (fun c h => by cases h)]; go_simp; try go_bits)
  simp only [apBody, Try.f65, pickC, Option.bind_some, Option.map_some, Option.getD_some, Option.none_or, Option.some_or]
  gi_wp2_with (first
    | (gi_at_builtin; refine wpListIn_app _ rfl _ _ 61 rfl u61 sB58 (by decide) rfl rfl (own_app (K := fun p' l' c' h' => l' = ss.length + 1 ∧ Own h' (Bs + 1) 1 p' (ss.length + 1) c' (ss.map (Value.int .u32) ++ [Value.int .u32 x]) ∧ Only (OwnB p) (W2.alloc (.cells #[.int .u32 x] 58)).heap h' ∧ ∀ b ∈ OwnB p', b ∈ OwnB p ∨ (W2.alloc (.cells #[.int .u32 x] 58)).heap.size ≤ b) H3 A3 rfl rfl (by omega) (by simp [Value.oneCell']) (by omega) fun p' c' h' a b c => ⟨rfl, a, b, c⟩) ?_; rintro p' l' c' w3 S3 ⟨rfl, H4, O4, hp'⟩
       have hnB : Bs ∉ OwnB p := fun hb => by have := H2.lt Bs hb; omega
       have A4 := A3'.only O4 hnB
       have hc3 : w3.cell? ⟨Bs, 0, none⟩ = some (.slice p ss.length c) := A4.rd 0
       have hf3 : w3.frozen? ⟨Bs, 0, none⟩ = false := A4.fz 0 none
       go_frame)
    | (rw [Oper.semAt_eq _ _ _ (fun c h => by cases h)]; go_simp; try go_bits))
  have hlB : l ∉ OwnB p := fun hb => by obtain ⟨c, A⟩ := H3.cells l hb; exact A.ne_obj ((Below.heap_alloc _ _ l (Array.getElem?_eq_some_iff.1 hL2).1).trans hL2) rfl rfl
  have hDB' : D ∉ OwnB p := fun hb => by obtain ⟨c, A⟩ := H3.cells D hb; exact A.ne_obj ((Below.heap_alloc _ _ D (Array.getElem?_eq_some_iff.1 hK2).1).trans hK2) rfl rfl
  have hL3 : w3.heap[l]? = some (.loop { apRec fn sv Bs D .ready none with state := .busy }) := (O4.same l (Nat.lt_of_lt_of_le (Array.getElem?_eq_some_iff.1 hL2).1 hz3) hlB).trans ((O3.same l (Array.getElem?_eq_some_iff.1 hL2).1 (by simp)).trans hL2)
  have hK3 : w3.heap[D]? = some (.deferred (some [])) := (O4.same D (Nat.lt_of_lt_of_le (Array.getElem?_eq_some_iff.1 hK2).1 hz3) hDB').trans ((O3.same D (Array.getElem?_eq_some_iff.1 hK2).1 (by simp)).trans hK2)
  obtain ⟨w4, hw4⟩ : ∃ w4, w3.setCell ⟨Bs, 0, none⟩ (.slice p' (ss.length + 1) c') = w4 := ⟨_, rfl⟩
  rw [hw4]
  have O5 : Only [Bs] w3.heap w4.heap := by rw [← hw4]; exact Only.wr w3.heap ⟨Bs, 0, none⟩ _
  have A5 : At w4.heap Bs [.slice p' (ss.length + 1) c'] := by rw [← hw4]; exact A4.wr 0 _
  have S4 : Same w3 w4 := by rw [← hw4]; exact ⟨rfl, rfl, rfl⟩
  have hL4 : w4.heap[l]? = some (.loop { apRec fn sv Bs D .ready none with state := .busy }) := (O5.same l (Array.getElem?_eq_some_iff.1 hL3).1 (by simpa using Ne.symm hBl)).trans hL3
  have hK4 : w4.heap[D]? = some (.deferred (some [])) := (O5.same D (Array.getElem?_eq_some_iff.1 hK3).1 (by simpa using hDB)).trans hK3
  have H5 := H4.onlyC O5 fun b hb _ hbB => by
    simp at hbB
    subst hbB
    have := H4.lt b hb
    omega
  clear hw4
  have O6 : Only [l] w4.heap (w4.putObj l (.loop { { apRec fn sv Bs D .ready none with state := .busy } with state := if (none : Option Code).isNone then .ready else .done, pending := none })).heap := Only.putW _ hL4 rfl rfl
  have hnl4 : ∀ b, (∃ c, At w4.heap b c) → b ∉ [l] := fun b ⟨c, A⟩ hb => A.ne_obj hL4 rfl (by simpa using hb)
  have OO : Only (l :: Bs :: OwnB p) W.heap (w4.putObj l (.loop { { apRec fn sv Bs D .ready none with state := .busy } with state := if (none : Option Code).isNone then .ready else .done, pending := none })).heap := by
    refine (((((O2.mono (T := l :: Bs :: OwnB p) (by simp +contextual)).trans O3 (by simp)).trans O4 (by simp +contextual)).trans O5 (by simp +contextual)).trans O6 (by simp +contextual))
  refine ⟨_, _, run_endRound none hL4, rfl, ⟨⟨p', c', ?_, ?_⟩, World.putObj_heap_same (Array.getElem?_eq_some_iff.1 hL4).1, (World.putObj_heap_other hDl).trans hK4, h.only.trans OO ?_, ?_⟩, keeps_only OO ?_⟩
  · rw [List.length_append, List.length_singleton]
    exact A5.only O6 (hnl4 _ ⟨_, A5⟩)
  · rw [List.length_append, List.length_singleton, List.map_append, List.map_singleton]
    exact H5.onlyC O6 fun b _ hc => hnl4 b hc
  · intro b hb hlt
    rcases List.mem_cons.1 hb with rfl | hb
    · omega
    · rcases List.mem_cons.1 hb with rfl | hb
      · omega
      · have := H.lt b hb
        omega
  · exact ((((h.same.trans S2).trans ⟨rfl, rfl, rfl⟩).trans S3).trans S4).trans ⟨rfl, rfl, rfl⟩
  · intro r hr o ho
    rcases List.mem_cons.1 hr with rfl | hr
    · rw [h.L] at ho; cases ho; rfl
    · rcases List.mem_cons.1 hr with rfl | hr
      · exact A.walkF o ho
      · obtain ⟨c, A'⟩ := H.cells r hr
        exact A'.walkF o ho
end Go.Proofs.Ytipckkeaoncjiaa.Ev
