/- EVALUATOR, part 4: each operation that leaves the heap alone runs as valE says. Conditions: none. -/
import Derived.Test.YtipckkeaoncjiaaEvC
namespace Go.Proofs.Ytipckkeaoncjiaa.Ev
open Go

theorem evs_eq {ρ : Fr} : ∀ {xs : List Operand} {vs : List Value}, evs ρ xs = some vs → vs.length = xs.length ∧ ∀ σ : Operand → Value, (∀ x ∈ xs, ∀ v, ev ρ x = some v → σ x = v) → xs.map σ = vs := by
  intro xs
  induction xs with
  | nil => intro vs h; simp [evs] at h; subst h; simp
  | cons x xs ih =>
    intro vs h
    simp only [evs] at h
    split at h
    case h_2 => simp at h
    rename_i v hv
    split at h
    case h_2 => simp at h
    rename_i us hus
    simp at h; subst h
    obtain ⟨hl, hm⟩ := ih hus
    refine ⟨by simp [hl], fun σ hσ => ?_⟩
    simp only [List.map_cons]
    rw [hσ x (by simp) v hv, hm σ fun y hy => hσ y (by simp [hy])]

theorem convE_sound {P : Program} {s d : TypeId} {x : Value} {K : Value → Prop} (H : convE P s d x K) :
    ∃ v, K v ∧ ∀ w : World, (convert s d x).run P w = .ok v w := by
  unfold convE at H
  split at H
  case h_2 => exact H.elim
  rename_i a k k' n hs hd
  exact ⟨_, H, fun w => by simp [convert, run_und hs, run_und hd, Conv.intToInt]⟩

theorem unE_sound {P : Program} {op : UnOp} {x : Value} {K : Value → Prop} (H : unE op x K) :
    ∃ v, K v ∧ ∀ w : World, (Op.unary op x).run P w = .ok v w := by
  unfold unE at H
  split at H
  · exact ⟨_, H, fun w => by simp [Op.unary]⟩
  · exact ⟨_, H, fun w => by simp [Op.unary, Op.intArith]⟩
  · exact ⟨_, H, fun w => rfl⟩
  · exact H.elim

theorem fieldAddrE_sound {P : Program} {s : TypeId} {x : Value} {i : Nat} {K : Value → Prop} (H : fieldAddrE P s x i K) :
    ∃ v, K v ∧ ∀ w : World, (Instr.fieldAt s x i).run P w = .ok v w := by
  unfold fieldAddrE at H
  split at H
  case h_2 => exact H.elim
  rename_i fs p hs
  split at H
  case h_2 => exact H.elim
  rename_i f hf
  split at H
  case h_2 => exact H.elim
  rename_i ti hti
  split at H
  case h_2 => exact H.elim
  rename_i hz
  obtain ⟨a, rfl, H⟩ := ptr_elim H
  have hz' : ¬ ti.size = 0 := fun e => by rw [e] at hz; simp at hz
  exact ⟨_, H, fun w => by simp [Instr.fieldAt, run_und hs, hf, Instr.sureAddr, fieldPlace, run_so hti, hz']⟩

theorem partE_sound {P : Program} {t : TypeId} {cs : Array Value} {off : Nat} {K : Value → Prop} (H : partE P t cs.toList off K) :
    ∃ v, K v ∧ ∀ w : World, (part t cs off).run P w = .ok v w := by
  unfold partE at H
  split at H
  case h_2 => exact H.elim
  rename_i d ti hd hti
  split at H
  · rename_i ha
    exact ⟨_, H, fun w => by simp [part, run_isA hd, ha, run_so hti]⟩
  · rename_i ha
    obtain ⟨v, hv, H⟩ := opt_elim H
    exact ⟨v, H, fun w => run_part hd ha cs off v (by simpa using hv) w⟩

theorem fieldE_sound {P : Program} {s : TypeId} {x : Value} {i : Nat} {K : Value → Prop} (H : fieldE P s x i K) :
    ∃ v, K v ∧ ∀ w : World, (Instr.field s x i).run P w = .ok v w := by
  unfold fieldE at H
  split at H
  case h_2 => exact H.elim
  rename_i fs cs hs
  split at H
  case h_2 => exact H.elim
  rename_i f hf
  obtain ⟨v, hv, hr⟩ := partE_sound H
  exact ⟨v, hv, fun w => by simp [Instr.field, run_und hs, hf, asAgg, hr]⟩

theorem indexAddrE_sound {P : Program} {t : TypeId} {x i : Value} {K : Value → Prop} (H : indexAddrE P t x i K) :
    ∃ v, K v ∧ ∀ w : World, (Instr.indexAt t x i).run P w = .ok v w := by
  unfold indexAddrE at H
  split at H
  · rename_i n e p k j ht
    split at H
    case h_2 => exact H.elim
    rename_i ti hti
    obtain ⟨a, rfl, h0, h1, H⟩ := ptr_elim H
    exact ⟨_, H, fun w => by simp [Instr.indexAt, asIntOf, run_und ht, Instr.sureAddr, h0, h1, run_so hti]⟩
  · rename_i e p l c k j ht
    split at H
    case h_2 => exact H.elim
    rename_i ti hti
    obtain ⟨a, rfl, h0, h1, H⟩ := ptr_elim H
    exact ⟨_, H, fun w => by simp [Instr.indexAt, asIntOf, run_und ht, h0, h1, run_so hti]⟩
  · exact H.elim

theorem indexE_sound {P : Program} {t : TypeId} {x i : Value} {K : Value → Prop} (H : indexE P t x i K) :
    ∃ v, K v ∧ ∀ w : World, (Instr.index t x i).run P w = .ok v w := by
  unfold indexE at H
  split at H
  case h_3 => exact H.elim
  case h_2 =>
    rename_i s k j ht
    obtain ⟨h0, b, hb, H⟩ := H
    exact ⟨_, H, fun w => by
      simp only [Instr.index, asIntOf, Sem.run_bind, Sem.run_pure, Result.andThen_ok, run_und ht]
      simp [h0, hb]⟩
  rename_i n e cs k j ht
  split at H
  case h_2 => exact H.elim
  rename_i d ti hd hti
  split at H
  · exact H.elim
  rename_i ha
  obtain ⟨h0, h1, H⟩ := H
  split at H
  case h_2 => exact H.elim
  rename_i hc
  obtain ⟨z, -, H⟩ := opt_elim H
  obtain ⟨v, hv, H⟩ := ldK_elim H
  have hs : ti.size = 1 := by rw [← cellsOf_eq hti]; exact hc
  exact ⟨v, H, fun w => by
    simp only [Instr.index, asIntOf, Sem.run_bind, Sem.run_pure, Result.andThen_ok, run_und ht]
    simp [h0, h1, run_so hti, hs, run_part hd ha cs j.toNat v (by simpa using hv) w]⟩

theorem bound_ok {P : Program} {k : IntKind} {i : Int} {y : Nat} {code : BoundsCode} (h0 : 0 ≤ i) (h1 : i ≤ y) (w : World) : (Instr.sliceBound (.int k i) y code).run P w = .ok i.toNat w := by
  simp [Instr.sliceBound, asIntOf, h0, h1]

theorem sliceE_sound {P : Program} {t : TypeId} {x : Value} {lo hi : Option Value} {K : Value → Prop} (H : sliceE P t x lo hi K) :
    ∃ v, K v ∧ ∀ w : World, (Instr.sliceAt t x lo hi none).run P w = .ok v w := by
  unfold sliceE at H
  split at H
  · rename_i e p l c ht
    split at H
    case h_2 => exact H.elim
    rename_i ti hti
    have hopen : ∀ w, (Instr.sliceAt t (.slice p l c) lo hi none).run P w = ((Instr.sliceBounds true l c lo hi none).run P w).andThen fun r w' => ((sizeOf e).run P w').andThen fun s w'' => .ok (.slice (if r.2.2 = r.1 then p else p.map (·.add (r.1 * s))) (r.2.1 - r.1) (r.2.2 - r.1)) w'' := by
      intro w
      simp [Instr.sliceAt, run_und ht, Instr.slice]
    split at H
    · rename_i k j
      obtain ⟨h0, h1, H⟩ := H
      refine ⟨_, H, fun w => ?_⟩
      rw [hopen]
      simp [Instr.sliceBounds, bound_ok h0 h1, run_so hti]
    · rename_i k i
      obtain ⟨h0, h1, H⟩ := H
      refine ⟨_, H, fun w => ?_⟩
      rw [hopen]
      simp [Instr.sliceBounds, bound_ok h0 h1, run_so hti]
    · rename_i k i k' j
      obtain ⟨h0, h1, h2, h3, H⟩ := H
      refine ⟨_, H, fun w => ?_⟩
      rw [hopen]
      have h3' : i ≤ (j.toNat : Int) := by omega
      simp [Instr.sliceBounds, bound_ok h0 h1, bound_ok h2 h3', run_so hti]
    · refine ⟨_, H, fun w => ?_⟩
      rw [hopen]
      simp [Instr.sliceBounds, run_so hti]
    · exact H.elim
  · rename_i n e p ht
    split at H
    case h_2 => exact H.elim
    rename_i ti hti
    have hopen : ∀ (a : Addr) w, (Instr.sliceAt t (.pointer (some a)) lo hi none).run P w = ((Instr.sliceBounds false n n lo hi none).run P w).andThen fun r w' => ((sizeOf e).run P w').andThen fun s w'' => .ok (.slice (some (if r.2.2 = r.1 then a else a.add (r.1 * s))) (r.2.1 - r.1) (r.2.2 - r.1)) w'' := by
      intro a w
      simp [Instr.sliceAt, run_und ht, Instr.sureAddr]
    split at H
    · rename_i k j
      obtain ⟨a, rfl, h0, h1, H⟩ := ptr_elim H
      refine ⟨_, H, fun w => ?_⟩
      rw [hopen]
      simp [Instr.sliceBounds, bound_ok h0 h1, run_so hti]
    · obtain ⟨a, rfl, H⟩ := ptr_elim H
      refine ⟨_, H, fun w => ?_⟩
      rw [hopen]
      simp [Instr.sliceBounds, run_so hti]
    · rename_i k i
      obtain ⟨a, rfl, h0, h1, H⟩ := ptr_elim H
      refine ⟨_, H, fun w => ?_⟩
      rw [hopen]
      simp [Instr.sliceBounds, bound_ok h0 h1, run_so hti]
    · exact H.elim
  · exact H.elim

theorem mp_heap {w : World} {b : Nat} {es : Array MapEntry} {cl : Nat} (h : mp w.heap b = some (es, cl)) : w.heap[b]? = some (.map es cl) := by
  unfold mp at h
  split at h
  · rename_i es' cl' hb; simp at h; obtain ⟨rfl, rfl⟩ := h; exact hb
  · simp at h
theorem run_getObj {P : Program} {w : World} {b : Nat} {es : Array MapEntry} {cl : Nat} (h : w.heap[b]? = some (.map es cl)) : (getObj b).run P w = .ok (.map es cl) w := by
  simp [getObj, Sem.run, h]
theorem run_checkKey {P : Program} {kt : TypeId} {k k' : IntKind} {n : Int} {b : Bool} (h : P.underlying kt = some (.int k)) (w : World) : (Instr.checkKey b 10000 kt (.int k' n)).run P w = .ok () w := by
  have m : (10000 : Nat) = 9999 + 1 := rfl
  rw [m]; unfold Instr.checkKey
  simp [run_und h]
theorem run_findKey {P : Program} {kt : TypeId} {k k' : IntKind} {n : Int} {es : List MapEntry} {o : Option (Nat × Value)} (h : P.underlying kt = some (.int k)) (hf : Instr.findNow (.int k) (.int k' n) es 0 = some o) (w : World) :
    (Instr.findKey kt (.int k' n) es).run P w = .ok o w := by
  simp [Instr.findKey, run_und h, hf]

theorem lookupE_sound {P : Program} {t : TypeId} {h : Heap} {x k : Value} {ok : Bool} {K : Value → Prop} (H : lookupE P t h x k ok K) :
    ∃ v, K v ∧ ∀ w : World, w.heap = h → (Instr.lookup t x k ok).run P w = .ok v w := by
  unfold lookupE at H
  split at H
  case h_2 => exact H.elim
  rename_i kt et r kk kn ht
  split at H
  case h_2 => exact H.elim
  rename_i k1 z hk hz
  obtain ⟨b, rfl, es, cl, hm, o, hf, H⟩ := opt_elim H
  have hrun : ∀ w : World, w.heap = h → (Instr.lookup t (.map (some b)) (.int kk kn) ok).run P w = .ok (if ok then .tuple #[(match o with | some (_, v) => v | none => z), .bool o.isSome] else (match o with | some (_, v) => v | none => z)) w := by
    intro w hw
    subst hw
    have hb := mp_heap hm
    cases o with
    | none => simp [Instr.lookup, run_und ht, run_getObj hb, run_checkKey hk, run_findKey hk hf, run_zv hz]
    | some q => simp [Instr.lookup, run_und ht, run_getObj hb, run_checkKey hk, run_findKey hk hf]
  unfold lkK at H
  cases o with
  | none =>
    cases ok with
    | true =>
      obtain ⟨v, hv, H⟩ := ldK_elim H
      simp only [Option.some.injEq] at hv; subst hv
      exact ⟨_, H, fun w hw => by rw [hrun w hw]; rfl⟩
    | false =>
      obtain ⟨v, hv, H⟩ := ldK_elim H
      simp only [Option.some.injEq] at hv; subst hv
      exact ⟨_, H, fun w hw => by rw [hrun w hw]; rfl⟩
  | some q =>
    cases ok with
    | true =>
      obtain ⟨v, hv, H⟩ := ldK_elim H
      simp only [Option.some.injEq] at hv; subst hv
      exact ⟨_, H, fun w hw => by rw [hrun w hw]; rfl⟩
    | false =>
      obtain ⟨v, hv, H⟩ := ldK_elim H
      simp only [Option.some.injEq] at hv; subst hv
      exact ⟨_, H, fun w hw => by rw [hrun w hw]; rfl⟩

theorem mapM_sizes {P : Program} (w : World) : ∀ (fs : List Field), (∀ f ∈ fs, ∃ i, P.info? f.type = some i) →
    (fs.mapM (m := Sem) fun f => do pure (f.offset, ← sizeOf f.type)).run P w = .ok (fs.map fun f => (f.offset, P.cellsOf f.type)) w := by
  intro fs
  induction fs with
  | nil => intro _; simp
  | cons f fs ih =>
    intro hf
    obtain ⟨i, hi⟩ := hf f (by simp)
    have := ih fun g hg => hf g (by simp [hg])
    simp only [List.mapM_cons, Sem.run_bind, run_so hi, Result.andThen_ok, Sem.run_pure, List.map_cons, cellsOf_eq hi]
    rw [this]
    rfl

theorem buildE_sound {P : Program} {t : TypeId} {vs : List Value} {ix : List Nat} {K : Value → Prop} (H : buildE P t (some vs) ix K) :
    ∃ v, K v ∧ ∀ w : World, (Instr.build t (ix.zip vs).toArray).run P w = .ok v w := by
  unfold buildE at H
  split at H
  · rename_i fs z vs' ht hz hv
    simp only [Option.some.injEq] at hv; subst hv
    split at H
    case h_2 => exact H.elim
    rename_i hall
    obtain ⟨cells, hc, H⟩ := opt_elim H
    have hi : ∀ f ∈ fs.toList, ∃ i, P.info? f.type = some i := fun f hf => by
      have := List.all_eq_true.1 hall f hf
      exact Option.isSome_iff_exists.1 this
    refine ⟨_, H, fun w => ?_⟩
    have hm : (fs.mapM (m := Sem) fun f => do pure (f.offset, ← sizeOf f.type)).run P w = .ok (fs.map fun f => (f.offset, P.cellsOf f.type)) w := by
      have h1 := mapM_sizes (P := P) w fs.toList hi
      rw [Array.mapM_eq_mapM_toList]
      simp only [Sem.run_map]
      rw [h1]
      simp only [Result.andThen_ok]
      congr 1
      apply Array.ext'
      simp
    simp only [Instr.build, Sem.run_bind, run_zv hz, Result.andThen_ok, run_und ht, hm, hc, Sem.run_pure]
  · rename_i n e z vs' ht hz hv
    simp only [Option.some.injEq] at hv; subst hv
    split at H
    case h_2 => exact H.elim
    rename_i hall
    obtain ⟨i, hi⟩ := Option.isSome_iff_exists.1 hall
    obtain ⟨cells, hc, H⟩ := opt_elim H
    refine ⟨_, H, fun w => ?_⟩
    rw [cellsOf_eq hi] at hc
    simp only [Instr.build, Sem.run_bind, run_zv hz, Result.andThen_ok, run_und ht, run_so hi, hc, Sem.run_pure]
  · exact H.elim

theorem ifaceE_sound {P : Program} {t : TypeId} {v : Value} {K : Value → Prop} (H : ifaceE P t v K) :
    ∃ u, K u ∧ ∀ w : World, (Instr.makeInterface t v).run P w = .ok u w := by
  unfold ifaceE at H
  split at H
  · exact H.elim
  · rename_i d hne hd
    refine ⟨_, H, fun w => ?_⟩
    simp only [Instr.makeInterface, Sem.run_bind, run_und hd, Result.andThen_ok]
    cases d <;> first | (exfalso; exact hne _ hd) | rfl
  · exact H.elim

theorem assertE_sound {P : Program} {x : Value} {xt t : TypeId} {ok : Bool} {K : Value → Prop} (H : assertE P t ok x K) :
    ∃ u, K u ∧ ∀ w : World, (Instr.typeAssert x xt t ok).run P w = .ok u w := by
  unfold assertE at H
  split at H
  · exact H.elim
  · rename_i d _ s v hne hd
    split at H
    case h_2 => exact H.elim
    rename_i hst
    have hst := Nat.eq_of_beq_eq_true hst
    subst hst
    cases ok
    · refine ⟨_, H, fun w => ?_⟩
      simp only [Instr.typeAssert, Sem.run_bind, run_und hd, Result.andThen_ok]
      cases d <;> first | (exfalso; exact hne _ _ hd rfl) | simp
    · refine ⟨_, H, fun w => ?_⟩
      simp only [Instr.typeAssert, Sem.run_bind, run_und hd, Result.andThen_ok]
      cases d <;> first | (exfalso; exact hne _ _ hd rfl) | simp
  · exact H.elim

theorem lenE_sound {P : Program} {t ty : TypeId} {h : Heap} {x : Value} {K : Value → Prop} (H : lenE P t h x K) :
    ∃ v, K v ∧ ∀ w : World, w.heap = h → (Builtin.len_ #[t] ty #[x]).run P w = .ok v w := by
  unfold lenE at H
  split at H
  · rename_i ht; exact ⟨_, H, fun w _ => by simp [Builtin.len_, run_und ht, goInt]⟩
  · rename_i ht; exact ⟨_, H, fun w _ => by simp [Builtin.len_, run_und ht, goInt]⟩
  · rename_i ht; exact ⟨_, H, fun w _ => by simp [Builtin.len_, run_und ht, goInt]⟩
  · rename_i ht
    obtain ⟨b, rfl, es, cl, hm, H⟩ := opt_elim H
    refine ⟨_, H, fun w hw => ?_⟩
    subst hw
    simp [Builtin.len_, run_und ht, run_getObj (mp_heap hm), goInt]
  · exact H.elim
theorem capE_sound {P : Program} {t ty : TypeId} {x : Value} {K : Value → Prop} (H : capE P t x K) :
    ∃ v, K v ∧ ∀ w : World, (Builtin.cap_ #[t] ty #[x]).run P w = .ok v w := by
  unfold capE at H
  split at H
  · rename_i ht; exact ⟨_, H, fun w => by simp [Builtin.cap_, run_und ht, goInt]⟩
  · exact H.elim
theorem mxE_sound {P : Program} {mx : Bool} {ats : Array TypeId} {ty : TypeId} {x y : Value} {K : Value → Prop} (H : mxE mx x y K) :
    ∃ v, K v ∧ ∀ w : World, (match mx with | true => Builtin.max_ ats ty #[x, y] | false => Builtin.min_ ats ty #[x, y]).run P w = .ok v w := by
  unfold mxE at H
  split at H
  · cases mx
    · exact ⟨_, H, fun w => by simp [Builtin.min_, Builtin.min2]⟩
    · exact ⟨_, H, fun w => by simp [Builtin.max_, Builtin.max2]⟩
  · exact H.elim

theorem nilE_sound {P : Program} {v : Value} {K : Value → Prop} (H : nilE v K) (dst : Option Tmp) (x : Operand) (type : TypeId) (pos : String) (after : Array Edge) (guard : Option (Nat × Bool)) (σ : Operand → Value) (hσ : σ x = v) :
    K v ∧ ∀ w : World, (execOp σ { dst, op := .nilCheck x, type, pos, after, guard }).run P w = .ok (.value v) w := by
  unfold nilE at H
  split at H
  · obtain ⟨a, rfl, H⟩ := ptr_elim H
    exact ⟨H, fun w => by simp [execOp, hσ]⟩
  · exact ⟨H, fun w => by simp [execOp, hσ]⟩
  · exact ⟨H, fun w => by simp [execOp, hσ]⟩
  · exact H.elim

theorem evo_eq {ρ : Fr} {x : Option Operand} {r : Option Value} (h : evo ρ x = some r) (σ : Operand → Value) (hσ : ∀ y, x = some y → ∀ v, ev ρ y = some v → σ y = v) : x.map σ = r := by
  cases x with
  | none => simp [evo] at h; subst h; rfl
  | some y =>
    simp only [evo] at h
    split at h
    case h_2 => simp at h
    rename_i v hv
    simp at h; subst h
    simp [hσ y rfl v hv]

theorem valE_sound {P : Program} {o : Oper} {ρ : Fr} {h : Heap} {K : Value → Prop} (H : valE P o.op ρ h K) :
    ∃ v, Val P o (ev ρ) h v ∧ K v := by
  obtain ⟨dst, op, type, pos, after, guard⟩ := o
  have lift : ∀ {s : (Operand → Value) → Sem Value} {v : Value}, (∀ σ, execOp σ ⟨dst, op, type, pos, after, guard⟩ = (do pure (.value (← s σ)))) →
      (∀ σ, Agr (ev ρ) op.operands σ → ∀ w : World, w.heap = h → (s σ).run P w = .ok v w) → Val P ⟨dst, op, type, pos, after, guard⟩ (ev ρ) h v := by
    intro s v he hs σ hσ w hw
    rw [he σ]
    simp [hs σ hσ w hw]
  unfold valE at H
  dsimp only at H
  split at H
  · obtain ⟨v, hv, H⟩ := opt_elim H
    exact ⟨v, fun σ hσ w hw => by simp [execOp, hσ _ (by simp [Op.operands]) v hv], H⟩
  · obtain ⟨v, hv, H⟩ := opt_elim H
    exact ⟨v, fun σ hσ w hw => by simp [execOp, hσ _ (by simp [Op.operands]) v hv], H⟩
  · rename_i c a b
    split at H
    case h_2 => exact H.elim
    rename_i t hc
    have base : ∀ v, (t = true → ev ρ a = some v) → (t = false → ev ρ b = some v) → Val P ⟨dst, .pick c a b, type, pos, after, guard⟩ (ev ρ) h v := by
      intro v h1 h2 σ hσ w hw
      have hcc := hσ c (by simp [Op.operands]) _ hc
      cases t
      · simp [execOp, hcc, asBool, hσ b (by simp [Op.operands]) _ (h2 rfl)]
      · simp [execOp, hcc, asBool, hσ a (by simp [Op.operands]) _ (h1 rfl)]
    unfold pickE at H
    split at H
    · rename_i x y hx hy
      exact ⟨_, base _ (fun ht => by subst ht; simpa using hx) (fun ht => by subst ht; simpa using hy), H⟩
    · rcases bcase_elim H with ⟨rfl, H⟩ | ⟨rfl, H⟩
      · obtain ⟨v, hv, H⟩ := opt_elim H
        exact ⟨v, base v (fun _ => hv) (fun h => by simp at h), H⟩
      · obtain ⟨v, hv, H⟩ := opt_elim H
        exact ⟨v, base v (fun h => by simp at h) (fun _ => hv), H⟩
  · rename_i x
    obtain ⟨v, hv, H⟩ := opt_elim H
    have := fun σ hσ => nilE_sound (P := P) H dst x type pos after guard σ hσ
    exact ⟨v, fun σ hσ w _ => (this σ (hσ _ (by simp [Op.operands]) v hv)).2 w, (this (fun _ => v) rfl).1⟩
  · rename_i op t x y yt
    obtain ⟨a, ha, H⟩ := opt_elim H
    obtain ⟨b, hb, H⟩ := opt_elim H
    obtain ⟨v, hv, hg, hr⟩ := binE_sound H
    exact ⟨v, lift (fun σ => rfl) fun σ hσ w _ => by
      rw [hσ x (by simp [Op.operands]) a ha, hσ y (by simp [Op.operands]) b hb]
      simp [hg, hr], hv⟩
  · rename_i op t x
    obtain ⟨a, ha, H⟩ := opt_elim H
    obtain ⟨v, hv, hr⟩ := unE_sound (P := P) H
    exact ⟨v, lift (fun σ => rfl) fun σ hσ w _ => by rw [hσ x (by simp [Op.operands]) a ha]; exact hr w, hv⟩
  · rename_i s d x
    obtain ⟨a, ha, H⟩ := opt_elim H
    obtain ⟨v, hv, hr⟩ := convE_sound H
    exact ⟨v, lift (fun σ => rfl) fun σ hσ w _ => by rw [hσ x (by simp [Op.operands]) a ha]; exact hr w, hv⟩
  · rename_i t x
    split at H
    case h_2 => exact H.elim
    rename_i p hp
    obtain ⟨v, hv, hr⟩ := loadE_sound H
    exact ⟨v, lift (fun σ => rfl) fun σ hσ w hw => by rw [hσ x (by simp [Op.operands]) _ hp]; exact hr w hw, hv⟩
  · rename_i s x i
    obtain ⟨a, ha, H⟩ := opt_elim H
    obtain ⟨v, hv, hr⟩ := fieldAddrE_sound H
    exact ⟨v, lift (fun σ => rfl) fun σ hσ w _ => by rw [hσ x (by simp [Op.operands]) a ha]; exact hr w, hv⟩
  · rename_i s x i
    obtain ⟨a, ha, H⟩ := opt_elim H
    obtain ⟨v, hv, hr⟩ := fieldE_sound H
    exact ⟨v, lift (fun σ => rfl) fun σ hσ w _ => by rw [hσ x (by simp [Op.operands]) a ha]; exact hr w, hv⟩
  · rename_i t x i
    obtain ⟨a, ha, H⟩ := opt_elim H
    obtain ⟨b, hb, H⟩ := opt_elim H
    obtain ⟨v, hv, hr⟩ := indexAddrE_sound H
    exact ⟨v, lift (fun σ => rfl) fun σ hσ w _ => by rw [hσ x (by simp [Op.operands]) a ha, hσ i (by simp [Op.operands]) b hb]; exact hr w, hv⟩
  · rename_i t x i
    obtain ⟨a, ha, H⟩ := opt_elim H
    obtain ⟨b, hb, H⟩ := opt_elim H
    obtain ⟨v, hv, hr⟩ := indexE_sound H
    exact ⟨v, lift (fun σ => rfl) fun σ hσ w _ => by rw [hσ x (by simp [Op.operands]) a ha, hσ i (by simp [Op.operands]) b hb]; exact hr w, hv⟩
  · rename_i t x lo hi
    obtain ⟨a, ha, H⟩ := opt_elim H
    obtain ⟨l, hl, H⟩ := opt_elim H
    obtain ⟨u, hu, H⟩ := opt_elim H
    obtain ⟨v, hv, hr⟩ := sliceE_sound H
    exact ⟨v, lift (fun σ => rfl) fun σ hσ w _ => by
      rw [hσ x (by simp [Op.operands]) a ha, evo_eq hl σ (fun y hy => hσ y (by simp [Op.operands, hy])), evo_eq hu σ (fun y hy => hσ y (by simp [Op.operands, hy]))]
      exact hr w, hv⟩
  · rename_i x i
    obtain ⟨a, ha, H⟩ := opt_elim H
    unfold extractE at H
    split at H
    case h_2 => exact H.elim
    obtain ⟨v, hv, H⟩ := opt_elim H
    exact ⟨v, lift (fun σ => rfl) fun σ hσ w _ => by rw [hσ x (by simp [Op.operands]) _ ha]; simp [Instr.extract, hv], H⟩
  · rename_i t x k ok
    obtain ⟨a, ha, H⟩ := opt_elim H
    obtain ⟨b, hb, H⟩ := opt_elim H
    obtain ⟨v, hv, hr⟩ := lookupE_sound H
    exact ⟨v, lift (fun σ => rfl) fun σ hσ w hw => by rw [hσ x (by simp [Op.operands]) a ha, hσ k (by simp [Op.operands]) b hb]; exact hr w hw, hv⟩
  · rename_i t ps
    cases hvs : evs ρ (ps.toList.map (·.2)) with
    | none => rw [hvs] at H; unfold buildE at H; split at H <;> first | exact H.elim | simp at *
    | some vs =>
      rw [hvs] at H
      obtain ⟨v, hv, hr⟩ := buildE_sound H
      obtain ⟨hl, hm⟩ := evs_eq hvs
      refine ⟨v, lift (fun σ => rfl) fun σ hσ w _ => ?_, hv⟩
      have e : (ps.map fun (i, x) => (i, σ x)) = ((ps.toList.map (·.1)).zip vs).toArray := by
        rw [← hm σ fun x hx => hσ x (by simpa [Op.operands] using hx)]
        apply Array.ext'
        simp [List.zip_map', List.map_map]
      rw [e]; exact hr w
  · rename_i t x
    obtain ⟨a, ha, H⟩ := opt_elim H
    obtain ⟨v, hv, hr⟩ := ifaceE_sound H
    exact ⟨v, lift (fun σ => rfl) fun σ hσ w _ => by rw [hσ x (by simp [Op.operands]) a ha]; exact hr w, hv⟩
  · rename_i fn first captured
    obtain ⟨a, ha, H⟩ := opt_elim H
    obtain ⟨b, hb, H⟩ := opt_elim H
    refine ⟨_, lift (fun σ => rfl) fun σ hσ w _ => ?_, H⟩
    have h1 := (evs_eq ha).2 σ fun x hx => hσ x (by simp only [Op.operands, Array.mem_append]; exact .inl (by simpa using hx))
    have h2 := (evs_eq hb).2 σ fun x hx => hσ x (by simp only [Op.operands, Array.mem_append]; exact .inr (by simpa using hx))
    have e1 : first.map σ = a.toArray := by rw [← h1]; apply Array.ext'; simp
    have e2 : captured.map σ = b.toArray := by rw [← h2]; apply Array.ext'; simp
    rw [e1, e2]; rfl
  · rename_i x xt t ok
    obtain ⟨a, ha, H⟩ := opt_elim H
    obtain ⟨v, hv, hr⟩ := assertE_sound (xt := xt) H
    exact ⟨v, lift (fun σ => rfl) fun σ hσ w _ => by rw [hσ x (by simp [Op.operands]) a ha]; exact hr w, hv⟩
  · rename_i b args ats
    obtain ⟨args⟩ := args
    obtain ⟨ats⟩ := ats
    split at H
    · rename_i x t e1 e2
      dsimp only at e1 e2; subst e1; subst e2
      obtain ⟨a, ha, H⟩ := opt_elim H
      obtain ⟨v, hv, hr⟩ := lenE_sound (ty := type) H
      exact ⟨v, lift (s := fun σ => Builtin.len_ #[t] type #[σ x]) (fun σ => by simp [execOp, resolve, invoke, builtin]) fun σ hσ w hw => by rw [hσ x (by simp [Op.operands, Call.operands]) a ha]; exact hr w hw, hv⟩
    · rename_i x t e1 e2
      dsimp only at e1 e2; subst e1; subst e2
      obtain ⟨a, ha, H⟩ := opt_elim H
      obtain ⟨v, hv, hr⟩ := capE_sound (ty := type) H
      exact ⟨v, lift (s := fun σ => Builtin.cap_ #[t] type #[σ x]) (fun σ => by simp [execOp, resolve, invoke, builtin]) fun σ hσ w hw => by rw [hσ x (by simp [Op.operands, Call.operands]) a ha]; exact hr w, hv⟩
    · rename_i x y e1
      dsimp only at e1; subst e1
      obtain ⟨a, ha, H⟩ := opt_elim H
      obtain ⟨b, hb, H⟩ := opt_elim H
      obtain ⟨v, hv, hr⟩ := mxE_sound (P := P) (ats := ats.toArray) (ty := type) H
      exact ⟨v, lift (s := fun σ => Builtin.max_ ats.toArray type #[σ x, σ y]) (fun σ => by simp [execOp, resolve, invoke, builtin]) fun σ hσ w hw => by rw [hσ x (by simp [Op.operands, Call.operands]) a ha, hσ y (by simp [Op.operands, Call.operands]) b hb]; exact hr w, hv⟩
    · rename_i x y e1
      dsimp only at e1; subst e1
      obtain ⟨a, ha, H⟩ := opt_elim H
      obtain ⟨b, hb, H⟩ := opt_elim H
      obtain ⟨v, hv, hr⟩ := mxE_sound (P := P) (ats := ats.toArray) (ty := type) H
      exact ⟨v, lift (s := fun σ => Builtin.min_ ats.toArray type #[σ x, σ y]) (fun σ => by simp [execOp, resolve, invoke, builtin]) fun σ hσ w hw => by rw [hσ x (by simp [Op.operands, Call.operands]) a ha, hσ y (by simp [Op.operands, Call.operands]) b hb]; exact hr w, hv⟩
    · exact H.elim
  · exact H.elim

end Go.Proofs.Ytipckkeaoncjiaa.Ev
