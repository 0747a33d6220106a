/- FROM A CALL SEEN FROM THE HEAP TO A LAW's ROW: the call returns true, nothing that was there has turned: so each argument reads as it read. Conditions: the table is laid out, the parameters' types can be read back. -/
import Derived.Test.YtipckkeaoncjiaaEvJ
import Derived.WalkKit
import Derived.ProofKit
import Derived.OpenShut
import Derived.Carry
import Derived.Deep.Slices
namespace Go.Proofs.Ytipckkeaoncjiaa.Ev
open Go Go.ChangeShapes Go.WideShapes Go.ChangeAt Go.RowKit

/-- what a law's call ends in -/
def Lawful (h : Heap) (v : Value) (h' : Heap) : Prop := v = .bool true ∧ Only [] h h'

theorem frz (w : World) (a : Addr) : w.frozen? a = fz w.heap a := by
  unfold World.frozen? fz
  rfl
theorem law_calls {P : Program} {f : FuncId} {args : List Value} {W : World} (H : CallsH P f args W.heap (Lawful W.heap)) :
    Calls P f args.toArray W fun e W' => e = .returned (.bool true) ∧ Below W.heap.size W W' ∧ ∀ a, W'.frozen? a = W.frozen? a := by
  refine (H W rfl).mono fun e W' ⟨v, he, hs, hv, hO⟩ => ?_
  subst hv
  exact ⟨he, ⟨hs.1, hs.2.1, hs.2.2, hO.size, fun k hk => hO.same k hk (by simp)⟩, fun a => by rw [frz, frz]; exact hO.fzn a⟩

theorem trodAll_stays {H : Type} {enc : TypeId × Value → H} {P : Program} (hl : laidOutB P = true) {W W' : World} {sp : Nat → Bool} :
    ∀ (ts : List TypeId) (vs : List Value) (ds : List (DataW H)) (ps : List MemPlace), ts.all (fun t => P.readableRec t && decide (t < P.types.size)) = true →
      DataW.TrodAll enc P W 0 (fun _ => true) true ts vs ds ps → (∀ p ∈ ps, W.sameAt W' p) → (∀ p ∈ ps, sp p.block = true) → DataW.TrodAll enc P W' 0 sp true ts vs ds ps
  | [], [], [], _, _, h, _, _ => h
  | t :: ts, v :: vs, d :: ds, ps, hr, ⟨p, q, hd, hds, e⟩, hsame, hsp => by
    subst e
    simp only [List.all_cons, Bool.and_eq_true, decide_eq_true_eq] at hr
    exact ⟨p, q, WideElems.Trod_stays hl hr.1.1 hr.1.2 hd (fun x hx => hsame x (List.mem_append.2 (.inl hx))) (fun x hx => hsp x (List.mem_append.2 (.inl hx))),
      trodAll_stays hl ts vs ds q hr.2 hds (fun x hx => hsame x (List.mem_append.2 (.inr hx))) (fun x hx => hsp x (List.mem_append.2 (.inr hx))), rfl⟩
  | [], _ :: _, _, _, _, h, _, _ => h.elim
  | [], [], _ :: _, _, _, h, _, _ => h.elim
  | _ :: _, [], _, _, _, h, _, _ => h.elim
  | _ :: _, _ :: _, [], _, _, h, _, _ => h.elim

theorem post_law {H : Type} {enc : TypeId × Value → H} {P : Program} {f : Func} {s : ChangeSpec} {apart fresh handsOn again : Bool} {W W' : World} {args : Array Value} {ds gs : List (DataW H)} {before : List MemPlace} {tb : TypeId}
    (hl : laidOutB P = true) (hread : f.params.toList.all (fun t => P.readableRec t && decide (t < P.types.size)) = true)
    (hres : f.resultTypes = #[tb]) (hb : P.underlying tb = some .bool) (hvars : s.vars = [])
    (hW : DataW.Whole enc P f.params.toList s.vars apart W args.toList ds gs before)
    (hs : s.fn H ds = { results := [.lit (.bool true)], args := ds })
    (hB : Below W.heap.size W W') (hfz : ∀ a, W'.frozen? a = W.frozen? a) : s.post enc P f apart fresh handsOn again W args (.bool true) W' := by
  have hlt : ∀ p ∈ before, p.block < W.heap.size := fun p hp => hW.lt p hp
  obtain ⟨p, q, hA, hV, rfl, hz, hn⟩ := id hW
  rw [hvars] at hV
  obtain ⟨rfl, rfl⟩ : gs = [] ∧ q = [] := by
    cases gs with
    | nil => exact ⟨rfl, hV⟩
    | cons _ _ => exact hV.elim
  refine post_of_same (pa := p) (pv := []) hW (fun _ _ _ => ?_) (fun sp hsp => ?_) (fun sp hsp => ?_) rfl (hB.frame _) hfz ?_
  · rw [hres, List.append_nil, hs]
    exact trodAll_cons_mk (shut_bool hb _) trodAll_mk0
  · rw [List.append_nil, hs]
    exact trodAll_stays hl _ _ _ _ hread hA (fun x hx => hB.same (hlt x (List.mem_append.2 (.inl hx)))) (fun x hx => hsp x (List.mem_append.2 (.inl hx)))
  · rw [List.append_nil, hs, hvars]
    rfl
  · exact ok_one hres rfl (okWide_bool_mk hb _)

/-- a row of whole numbers in memory -/
def Ints (h : Heap) (k : IntKind) (p : Option Addr) (zs : List Int) : Prop :=
  ∀ i, i < zs.length → ∃ a, p = some a ∧ rd h (a.add i) = some (.int k (zs.getD i 0))
theorem Ints.only {S : List Nat} {h h' : Heap} {k : IntKind} {p : Option Addr} {zs : List Int} (H : Ints h k p zs) (O : Only S h h') (hS : ∀ b ∈ S, h.size ≤ b) : Ints h' k p zs := by
  intro i hi
  obtain ⟨a, e, hr⟩ := H i hi
  refine ⟨a, e, ?_⟩
  rw [← hr]
  have hb : (a.add i).block < h.size := by
    apply Classical.byContradiction
    intro hn
    have : h[(a.add i).block]? = none := Array.getElem?_eq_none (by omega)
    simp [rd, this] at hr
  unfold rd
  rw [O.same _ hb fun hm => absurd (hS _ hm) (by omega)]
theorem wf_range {k : IntKind} {n : Int} (h : (Lit.int k n).wf = true) : k.min ≤ n ∧ n ≤ k.max := by
  simpa [Lit.wf] using h
theorem open_sl {H : Type} {enc : TypeId × Value → H} {P : Program} {W : World} {r : Reach} {b0 base : Nat} {sp : Nat → Bool} {held : Bool} {t e : TypeId} {k : IntKind} {v : Value} {d : DataW H} {ps : List MemPlace}
    (ht : P.underlying t = some (.slice e)) (he : P.underlying e = some (.int k)) (hc : P.cellsOf e = 1) (hval : Value.okWide P W r b0 t v)
    (hd : DataW.Trod enc P W base sp held t v d ps) (hsp : ∀ b, sp b = true) :
    ∃ (p : Option Addr) (c : Nat) (zs : List Int), v = .slice p zs.length c ∧ Ints W.heap k p zs ∧ (∀ z ∈ zs, k.min ≤ z ∧ z ≤ k.max) ∧ (zs.length : Int) ≤ maxLen := by
  obtain ⟨a, len, cap, rfl⟩ := okWide_slice ht hval
  obtain ⟨fuel, hf⟩ := hd
  rcases open_ints ht he hc hf with ⟨hcs, -⟩ | ⟨a', len', cap', zs, hcs, -, hle, hmx, hzl, -, hcell, hwf⟩
  · simp only [Value.cells, List.cons.injEq, and_true] at hcs
    injection hcs with e1 e2 e3
    subst e1 e2 e3
    exact ⟨none, 0, [], rfl, fun i hi => absurd hi (by simp), by simp, by simp [maxLen]⟩
  · simp only [Value.cells, List.cons.injEq, and_true] at hcs
    injection hcs with e1 e2 e3
    subst e1 e2 e3
    rw [if_pos (hsp _)] at hzl
    have hl : (zs.take len).length = len := by rw [List.length_take]; omega
    refine ⟨some a', cap, zs.take len, by rw [hl], fun i hi => ⟨a', rfl, ?_⟩, fun z hz => wf_range (hwf z (List.mem_of_mem_take hz)), by rw [hl]; omega⟩
    rw [hl] at hi
    have := hcell i (by omega)
    rw [show (zs.take len).getD i 0 = zs.getD i 0 by simp [List.getD, hi]]
    exact this

/-- a row of records of N cells -/
def Recs (h : Heap) (p : Option Addr) (l N : Nat) (s : Nat → Nat → Value) : Prop :=
  ∀ i j, i < l → j < N → ∃ a, p = some a ∧ rd h (a.add (i * N + j)) = some (s i j)
theorem rd_only {S : List Nat} {h h' : Heap} {a : Addr} {v : Value} (H : rd h a = some v) (O : Only S h h') (hS : ∀ b ∈ S, h.size ≤ b) : rd h' a = some v := by
  rw [← H]
  have hb : a.block < h.size := by
    apply Classical.byContradiction
    intro hn
    have : h[a.block]? = none := Array.getElem?_eq_none (by omega)
    simp [rd, this] at H
  unfold rd
  rw [O.same _ hb fun hm => absurd (hS _ hm) (by omega)]
theorem Recs.only {S : List Nat} {h h' : Heap} {p : Option Addr} {l N : Nat} {s : Nat → Nat → Value} (H : Recs h p l N s) (O : Only S h h') (hS : ∀ b ∈ S, h.size ≤ b) : Recs h' p l N s := by
  intro i j hi hj
  obtain ⟨a, e, hr⟩ := H i j hi hj
  exact ⟨a, e, rd_only hr O hS⟩
theorem add_add (a : Addr) (m n : Nat) : (a.add m).add n = a.add (m + n) := by
  unfold Addr.add
  by_cases hm : m = 0
  · subst hm; simp
  · by_cases hn : n = 0
    · subst hn; simp
    · rw [if_neg hm, if_neg hn, if_neg (by omega)]
      simp [Nat.add_assoc]
/-- a choice along a row -/
theorem pick {α : Type} [Inhabited α] {l : Nat} {Q : Nat → α → Prop} (H : ∀ i, i < l → ∃ n, Q i n) : ∃ f : Nat → α, ∀ i, i < l → Q i (f i) :=
  ⟨fun i => if h : i < l then (H i h).choose else default, fun i hi => by simp only [dif_pos hi]; exact (H i hi).choose_spec⟩
theorem open_ss {H : Type} {enc : TypeId × Value → H} {P : Program} {W : World} {r : Reach} {b0 base : Nat} {sp : Nat → Bool} {held : Bool} {t e : TypeId} {fs : Array Field} {N : Nat} {v : Value} {d : DataW H} {ps : List MemPlace}
    (ht : P.underlying t = some (.slice e)) (he : P.underlying e = some (.struct fs)) (hc : P.cellsOf e = N) (hval : Value.okWide P W r b0 t v)
    (hd : DataW.Trod enc P W base sp held t v d ps) (hsp : ∀ b, sp b = true) :
    ∃ (p : Option Addr) (c l : Nat) (s : Nat → Nat → Value), v = .slice p l c ∧ Recs W.heap p l N s ∧ (l : Int) ≤ maxLen ∧
      ∀ i, i < l → ∀ (j : Nat) (f : Field), fs[j]? = some f → P.cellsOf f.type = 1 → f.offset < N →
        (∀ k, P.underlying f.type = some (.int k) → ∃ n, s i f.offset = .int k n ∧ k.min ≤ n ∧ n ≤ k.max) ∧ (P.underlying f.type = some .bool → ∃ b, s i f.offset = .bool b) := by
  obtain ⟨a, len, cap, rfl⟩ := okWide_slice ht hval
  obtain ⟨fuel, hf⟩ := hd
  rcases Go.Deep.open_slice ht hf with ⟨hcs, -⟩ | ⟨a', len', cap', m, n, D, Pl, hcs, -, hle, hmx, hm, -, hi⟩
  · simp only [Value.cells, List.cons.injEq, and_true] at hcs
    injection hcs with e1 e2 e3
    subst e1 e2 e3
    exact ⟨none, 0, 0, fun _ _ => .bool false, rfl, fun i j hi => absurd hi (by omega), by simp [maxLen], fun i hi => absurd hi (by omega)⟩
  · simp only [Value.cells, List.cons.injEq, and_true] at hcs
    injection hcs with e1 e2 e3
    subst e1 e2 e3
    rw [if_pos (hsp _)] at hm
    subst hm
    rw [hc] at hi
    have key : ∀ i, i < len → ∃ cs' : List Value, cs'.length = N ∧ (∀ j, j < N → rd W.heap (a'.add (i * N + j)) = cs'[j]?) ∧ ∃ x, DataW.trod enc P W base sp held n e cs' = some x := by
      intro i hl
      obtain ⟨cs', h1, h2⟩ := hi i (by omega)
      obtain ⟨_, hcl, hat⟩ := World.cells?_some h1
      exact ⟨cs', hcl, fun j hj => by rw [← add_add]; exact hat j hj, _, h2⟩
    refine ⟨some a', _, len, fun i j => (rd W.heap (a'.add (i * N + j))).getD (.bool false), rfl, fun i j hl hj => ⟨a', rfl, ?_⟩, by omega, fun i hl j f hj hc1 ho => ?_⟩
    · obtain ⟨cs', h1, h2, -⟩ := key i hl
      simp only [h2 j hj]
      simp [h1, hj]
    · obtain ⟨cs', h1, h2, x, h3⟩ := key i hl
      obtain ⟨ys, n', -, -, -, hyl, hfi⟩ := DataW.trod_struct he h3
      have hjl : j < fs.size := (Array.getElem?_eq_some_iff.1 hj).1
      have h4 := hfi j f hj
      rw [hc1, List.getElem?_eq_getElem (by omega : j < ys.length)] at h4
      simp only [h2 _ ho]
      have hone : (cs'.drop f.offset).take 1 = [cs'[f.offset]'(by omega)] := by
        rw [List.drop_eq_getElem_cons (by omega)]
        rfl
      rw [hone] at h4
      simp only [List.getElem?_eq_getElem (by omega : f.offset < cs'.length), Option.getD_some]
      refine ⟨fun k hk => ?_, fun hk => ?_⟩
      · obtain ⟨z, h5, -, h6⟩ := DataW.trod_int hk h4
        injection h5 with h5
        exact ⟨z, h5, wf_range h6⟩
      · obtain ⟨z, h5, -⟩ := DataW.trod_bool hk h4
        injection h5 with h5
        exact ⟨z, h5⟩
theorem Only.nil {h h' h'' : Heap} {S : List Nat} (A : Only [] h h') (B : Only S h' h'') (hS : ∀ b ∈ S, h.size ≤ b) : Only [] h h'' :=
  A.trans B fun b hb hl => absurd (hS b hb) (by omega)
theorem range_getD {k : IntKind} {zs : List Int} (hr : ∀ z ∈ zs, k.min ≤ z ∧ z ≤ k.max) {i : Nat} (hi : i < zs.length) : k.min ≤ zs.getD i 0 ∧ zs.getD i 0 ≤ k.max := by
  apply hr
  rw [show zs.getD i 0 = zs[i] by simp [List.getD, hi]]
  exact List.getElem_mem hi
theorem tmod_fit {z : Int} (h : IntKind.min .u8 ≤ z ∧ z ≤ IntKind.max .u8) {d : Int} (hd : 0 < d) : 0 ≤ z.tmod d ∧ z.tmod d < d := by
  have h0 : 0 ≤ z := h.1
  rw [Int.tmod_eq_emod_of_nonneg h0]
  exact ⟨Int.emod_nonneg _ (by omega), Int.emod_lt_of_pos _ hd⟩
end Go.Proofs.Ytipckkeaoncjiaa.Ev
