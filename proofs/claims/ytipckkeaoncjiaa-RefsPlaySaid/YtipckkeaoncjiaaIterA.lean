/- MAPS whose keys are whole numbers, ranged over: what a map that stands (MapM) reads as; what has come so far; heaps that keep what is frozen. Conditions: the map stands. -/
import Derived.Test.YtipckkeaoncjiaaEvN
import Derived.RangeFuncGives
import Derived.RangeFuncLeaves
import Derived.RangeFuncOwn
import Derived.Maps.OwnIn
import Derived.Maps.AppendAt
import Derived.WalkKit
import Derived.RegionIn
import Derived.LoopNIn
import Derived.LoopIn
import Derived.TacticsInMore
namespace Go.Proofs.Ytipckkeaoncjiaa.Ev
open Go Go.RowKit Go.Maps

/-- whatever it holds, it reads as nothing -/
def anyR (_ : Value) : Option (DataW Unit × List MemPlace) := some (.nil, [])
def keyD (q : IntKind) (p : Int × Value) : Lit × DataW Unit := (.int q p.1, .nil)
theorem owns_of {P : Program} {kt : TypeId} {q : IntKind} (hk : P.underlying kt = some (.int q)) {w : World} {b : Nat} {m : List (Int × Value)} (M : MapM w.heap b q m)
    (hwf : ∀ x ∈ m.map (·.1), (Lit.int q x).wf = true) (hsz : m.length ≤ maxLen) :
    ∃ D : DataW Unit, w.ownsMap P kt anyR b m.length D ∧ Maps.size D = m.length ∧ ∀ x, Maps.has D (.int q x) = true ↔ x ∈ m.map (·.1) := by
  obtain ⟨es, cl, h1, h2, h3, h4, h5⟩ := M
  have hlen : es.toList.length = m.length := by simpa using congrArg List.length h2
  have hrd : ∀ (l : List MapEntry) (m : List (Int × Value)), l.map (fun e => (e.key, e.val)) = m.map (fun p => (Value.int q p.1, p.2)) → (∀ x ∈ m.map (·.1), (Lit.int q x).wf = true) →
      l.map (WideElems.rg P kt anyR) = m.map (keyD q) ∧ ∀ x ∈ l, ∃ y, WideElems.rd P kt anyR x = some y := by
    intro l
    induction l with
    | nil => intro m h _; cases m with
      | nil => exact ⟨rfl, by simp⟩
      | cons p m => simp at h
    | cons e l ih => intro m h hw; cases m with
      | nil => simp at h
      | cons p m =>
        simp only [List.map_cons, List.cons.injEq, Prod.mk.injEq] at h
        obtain ⟨⟨a1, a2⟩, a3⟩ := h
        obtain ⟨i1, i2⟩ := ih m a3 fun x hx => hw x (by simp [hx])
        have hr : WideElems.rd P kt anyR e = some (keyD q p) := by
          unfold WideElems.rd
          rw [a1, keyOf_int_mk hk (hw p.1 (by simp))]
          rfl
        refine ⟨by rw [List.map_cons, List.map_cons, i1]; unfold WideElems.rg; rw [hr]; rfl, fun x hx => ?_⟩
        rcases List.mem_cons.1 hx with rfl | hx
        · exact ⟨_, hr⟩
        · exact i2 x hx
  obtain ⟨r1, r2⟩ := hrd _ m h2 hwf
  refine ⟨_, ⟨es, cl, mp_obj h1, ⟨by rw [← Array.length_toList, hlen]; exact hsz, ⟨h5, h4, ?_⟩, r2⟩, by rw [← Array.length_toList, hlen]; exact Nat.le_refl _, rfl⟩, ?_, fun x => ?_⟩
  · have e : es.toList.map (·.key) = (m.map (·.1)).map (Value.int q) := by
      have := congrArg (List.map Prod.fst) h2
      simpa [List.map_map, Function.comp_def] using this
    rw [e]
    exact h3.map _ fun a b hab e => hab (by injection e)
  · rw [Maps.size_eq, length_sorted, List.length_map, hlen]
  · rw [Maps.has_eq, List.any_eq_true, r1]
    constructor
    · rintro ⟨p, hp, hs⟩
      rw [mem_sorted, List.mem_map] at hp
      obtain ⟨y, hy, rfl⟩ := hp
      simp [keyD, Lit.sameKey] at hs
      exact List.mem_map.2 ⟨y, hy, hs⟩
    · intro hx
      obtain ⟨p, hp, rfl⟩ := List.mem_map.1 hx
      exact ⟨keyD q p, mem_sorted.2 (List.mem_map.2 ⟨p, hp, rfl⟩), by simp [keyD, Lit.sameKey]⟩

/-- no key twice; a key is on the list just where the map has it and it is no longer to come -/
def CollI (q : IntKind) (D0 : DataW Unit) (left : Lit → Bool) (ss : List Int) : Prop := ss.Nodup ∧ ∀ x, x ∈ ss ↔ (Maps.has D0 (.int q x) = true ∧ left (.int q x) = false)
theorem CollI.start (q : IntKind) (D0 : DataW Unit) : CollI q D0 (Maps.has D0) [] := ⟨List.nodup_nil, fun x => by cases Maps.has D0 (.int q x) <;> simp⟩
theorem CollI.step {q : IntKind} {D0 : DataW Unit} {left : Lit → Bool} {ss : List Int} (h : CollI q D0 left ss) {x : Int} {y : DataW Unit} (hlk : left (.int q x) = true) (hat : ∀ zd, D0.atKey (.int q x) zd = y) :
    CollI q D0 (fun z => left z && !z.sameKey (.int q x)) (ss ++ [x]) := by
  have hhas : Maps.has D0 (.int q x) = true := Maps.has_true_of_atKey hat
  have hnew : x ∉ ss := fun hx => by have := ((h.2 x).1 hx).2; rw [hlk] at this; cases this
  refine ⟨List.nodup_append.2 ⟨h.1, by simp, fun a ha b hb => by simp at hb; subst hb; exact fun e => hnew (e ▸ ha)⟩, fun y => ?_⟩
  by_cases hy : y = x
  · subst hy; simp [hhas, Lit.sameKey]
  · simp [h.2 y, hy, Lit.sameKey]
theorem CollI.perm {q : IntKind} {D0 : DataW Unit} {left : Lit → Bool} {ss ks : List Int} (h : CollI q D0 left ss) (hl : ∀ kl, left kl = false) (hnd : ks.Nodup) (hm : ∀ x, Maps.has D0 (.int q x) = true ↔ x ∈ ks) : ss.Perm ks :=
  (List.perm_ext_iff_of_nodup h.1 hnd).2 fun x => by rw [h.2 x, hl, ← hm]; simp

/-- nothing frozen anew -/
def FzK (W W' : World) : Prop := ∀ a, fz W'.heap a = fz W.heap a
theorem FzK.refl (W : World) : FzK W W := fun _ => rfl
theorem FzK.trans {A B C : World} (h : FzK A B) (k : FzK B C) : FzK A C := fun a => (k a).trans (h a)
theorem fz_obj {h : Heap} {a : Addr} {o : Obj} (ho : h[a.block]? = some o) (hc : o.isCells = false) : fz h a = false := by
  unfold fz
  rw [ho]
  cases o <;> first | rfl | (simp [Obj.isCells] at hc)
theorem FzK.alloc (W : World) {o : Obj} (hc : o.isCells = false) : FzK W (W.alloc o) := fun a => by
  by_cases ha : a.block = W.heap.size
  · rw [fz_obj (o := o) (by rw [ha]; exact World.alloc_heap_new W o) hc]
    unfold fz
    rw [ha, Array.getElem?_eq_none (Nat.le_refl _)]
  · unfold fz
    show (match (W.heap.push o)[a.block]? with | some (.cells _ _ (lo, hi)) => lo ≤ a.off && a.off < hi | _ => false) = _
    rw [Array.getElem?_push, if_neg ha]
    rfl
theorem FzK.put {W : World} {l : Nat} {o : Obj} (o' : Obj) (hl : W.heap[l]? = some o) (hc : o.isCells = false) (hc' : o'.isCells = false) : FzK W (W.putObj l o') := fun a => by
  by_cases ha : a.block = l
  · rw [fz_obj (o := o') (by rw [ha]; exact World.putObj_heap_same (Array.getElem?_eq_some_iff.1 hl).1) hc', fz_obj (o := o) (by rw [ha]; exact hl) hc]
  · unfold fz
    rw [World.putObj_heap_other ha]
theorem FzK.one {W W' : World} {r : Nat} (hs : ∀ k, k < W.heap.size → k ≠ r → W'.heap[k]? = W.heap[k]?) {o : Obj} (hr : W.heap[r]? = some o ∨ W.heap.size = r) (ho : W.heap[r]? = some o → o.isCells = false) {o' : Obj} (hr' : W'.heap[r]? = some o') (ho' : o'.isCells = false)
    (hsz : W'.heap.size ≤ max W.heap.size (r + 1)) : FzK W W' := fun a => by
  by_cases ha : a.block = r
  · rw [fz_obj (o := o') (by rw [ha]; exact hr') ho']
    rcases hr with hr | hr
    · rw [fz_obj (o := o) (by rw [ha]; exact hr) (ho hr)]
    · unfold fz
      rw [ha, Array.getElem?_eq_none (Nat.le_of_eq hr)]
  · unfold fz
    by_cases hk : a.block < W.heap.size
    · rw [hs _ hk ha]
    · have : W'.heap.size ≤ a.block := by
        rcases Nat.le_total W.heap.size (r + 1) with h | h
        · rw [Nat.max_eq_right h] at hsz
          rcases hr with hr | hr
          · have := (Array.getElem?_eq_some_iff.1 hr).1; omega
          · omega
        · rw [Nat.max_eq_left h] at hsz
          omega
      rw [Array.getElem?_eq_none (Nat.le_of_not_lt hk), Array.getElem?_eq_none this]
theorem Only.ofW {W W' : World} {r : Nat} {S : List Nat} (hz : W.heap.size ≤ W'.heap.size) (hs : ∀ k, k < W.heap.size → k ≠ r → W'.heap[k]? = W.heap[k]?) (hf : FzK W W') (hr : r ∈ S ∨ W.heap.size ≤ r) : Only S W.heap W'.heap :=
  ⟨hz, fun b hb hS => hs b hb fun e => by
    subst e
    rcases hr with hr | hr
    · exact hS hr
    · omega, hf⟩
theorem Only.allocW (W : World) {o : Obj} (hc : o.isCells = false) : Only [] W.heap (W.alloc o).heap :=
  ⟨by simp, fun b hb _ => Below.heap_alloc W o b hb, FzK.alloc W hc⟩
theorem Only.putW {W : World} {l : Nat} {o : Obj} (o' : Obj) (hl : W.heap[l]? = some o) (hc : o.isCells = false) (hc' : o'.isCells = false) : Only [l] W.heap (W.putObj l o').heap :=
  ⟨by simp, fun b _ hS => World.putObj_heap_other (fun e => hS (by simp [e])), FzK.put o' hl hc hc'⟩
theorem setCell_heap (W : World) (a : Addr) (v : Value) : (W.setCell a v).heap = wr W.heap a v := rfl
theorem stL_mono {a : Addr} {K K' : Heap → Prop} : ∀ (cs : List Value) (i : Nat) (h : Heap), stL a i cs h K → (∀ h', K h' → K' h') → stL a i cs h K' := by
  intro cs
  induction cs with
  | nil => intro i h H hK; unfold stL at H ⊢; exact hK h H
  | cons v vs ih =>
    intro i h H hK
    unfold stL stK at H ⊢
    cases hv : v.oneCell' with
    | false => rw [hv] at H; exact H
    | true => rw [hv] at H; exact ⟨H.1, H.2.1, ih _ _ H.2.2 hK⟩

/-- the invariant abides an iterator's steps -/
def AbidesZ (B : Nat) (J : List Int → World → Prop) : Prop :=
  ∀ s W W' row, J s W → W.grownBy W' row → FzK W W' → (∀ r, row = some r → B ≤ r ∧ ∃ o : Obj, W.heap[r]? = some o ∧ o.isWalk = true) → J s W'
theorem grown_only {W W' : World} {row : Option Nat} (hg : W.grownBy W' row) (hf : FzK W W') : Only row.toList W.heap W'.heap :=
  ⟨hg.size, fun b hb hS => hg.block b hb (fun e => hS (by rw [← e]; simp)), hf⟩
theorem grown_same {W W' : World} {row : Option Nat} (hg : W.grownBy W' row) : W'.os = W.os ∧ W'.tape = W.tape ∧ W'.output = W.output := by
  obtain ⟨a, b, c, -⟩ := hg
  constructor <;> (try constructor) <;> assumption

theorem appK_mono {h : Heap} {e : TypeId} {sz by_ : Nat} {z : Array Value} {p q : Option Addr} {l c m : Nat} {K K' : Option Addr → Nat → Nat → Heap → Prop} (H : appK h e sz by_ z p l c q m K)
    (hK : ∀ p' l' c' h', K p' l' c' h' → K' p' l' c' h') : appK h e sz by_ z p l c q m K' := by
  obtain ⟨new, a1, a2, a3, a4⟩ := H
  refine ⟨new, a1, a2, fun hle => ?_, fun hlt => ?_⟩
  · have := a3 hle
    cases p with
    | none => exact ⟨this.1, hK _ _ _ _ this.2⟩
    | some ad => exact stL_mono _ _ _ this fun h' hk => hK _ _ _ _ hk
  · obtain ⟨old, b1, b2, b3, b4⟩ := a4 hlt
    exact ⟨old, b1, b2, b3, fun cap hc => hK _ _ _ _ (b4 cap hc)⟩
/-- append, in the walk of a round -/
theorem wpListIn_app {F : Fence} {n : Nat} {P : Program} (w : World) {ops : Array Oper} {rest : List Oper} {o : Oper} {a : Act} {Q : Exit → Act → World → Prop} (hg : o.guard = none) (x y : Operand) (t : TypeId)
    (ho : o.op = .call { callee := .builtin .append, args := #[x, y], argTypes := #[t, t] }) {e : TypeId} {sz by_ : Nat} {z : Array Value} {p q : Option Addr} {l c m c' : Nat}
    (ht : P.underlying t = some (.slice e)) (hs : sizeB P e = some (sz, by_, z)) (hby : 1 ≤ by_) (hx : a.eval x = .slice p l c) (hy : a.eval y = .slice q m c')
    {K : Option Addr → Nat → Nat → Heap → Prop} (H : appK w.heap e sz by_ z p l c q m K)
    (h : ∀ p' l' c' w', Same w w' → K p' l' c' w'.heap → wpListIn F n P ops Q rest (a.put o.dst (.slice p' l' c')) w') : wpListIn F n P ops Q (o :: rest) a w := by
  refine wpListIn_plain hg fun K' hK' => ?_
  obtain ⟨v, w', hr, hsame, ⟨p', l', c', hv, hk⟩⟩ := appK_sound (P := P) (ty := o.type) (c' := c') (K := fun v h => ∃ p' l' c', v = .slice p' l' c' ∧ K p' l' c' h) ht ⟨e, ht⟩ hs hby
    (appK_mono H fun p' l' c' h' hk => ⟨p', l', c', rfl, hk⟩) w rfl
  unfold Oper.wpIn
  refine ⟨by simp [Oper.about, ho, resolve, Target.leads, Sem.run_pure], ?_⟩
  rw [Oper.semAt_plain F _ _ (by rw [ho]; intro c hc'; cases hc')]
  simp [execOp, ho, resolve, invoke, builtin, hx, hy, hr, Result.andThen]
  subst hv
  exact hK' _ _ (h _ _ _ _ hsame hk)
end Go.Proofs.Ytipckkeaoncjiaa.Ev
