/- EVALUATOR, part 5: operations that change the heap, and calls, run as effE says. Conditions: the table of functions is as the program has it (XOk). -/
import Derived.Test.YtipckkeaoncjiaaEvD
namespace Go.Proofs.Ytipckkeaoncjiaa.Ev
open Go

theorem Same.refl (w : World) : Same w w := ⟨rfl, rfl, rfl⟩
theorem Same.trans {a b c : World} (h : Same a b) (k : Same b c) : Same a c := ⟨k.1.trans h.1, k.2.1.trans h.2.1, k.2.2.trans h.2.2⟩

def EffR (P : Program) (K : Value → Heap → Prop) (w : World) : Result Next → Prop
  | .ok (.value v) w' => Same w w' ∧ K v w'.heap
  | .ok .skip w' => Same w w' ∧ K undef w'.heap
  | .ok (.enter f args) w' => Same w w' ∧ Calls P f args w' fun e w'' => ∃ v, e = .returned v ∧ Same w' w'' ∧ K v w''.heap
  | _ => False
def Eff (P : Program) (o : Oper) (f : Operand → Option Value) (h : Heap) (K : Value → Heap → Prop) : Prop :=
  ∀ σ, Agr f o.op.operands σ → ∀ w : World, w.heap = h → EffR P K w ((execOp σ o).run P w)

theorem EffR.mono {P : Program} {K K' : Value → Heap → Prop} {w : World} {r : Result Next} (h : EffR P K w r) (hk : ∀ v h, K v h → K' v h) : EffR P K' w r := by
  unfold EffR at *
  split at h
  · exact ⟨h.1, hk _ _ h.2⟩
  · exact ⟨h.1, hk _ _ h.2⟩
  · exact ⟨h.1, h.2.mono fun e w'' ⟨v, he, hs, hK⟩ => ⟨v, he, hs, hk _ _ hK⟩⟩
  · exact h.elim
theorem Eff.mono {P : Program} {o : Oper} {f : Operand → Option Value} {h : Heap} {K K' : Value → Heap → Prop} (H : Eff P o f h K) (hk : ∀ v h, K v h → K' v h) : Eff P o f h K' :=
  fun σ hσ w hw => (H σ hσ w hw).mono hk
theorem Val.eff {P : Program} {o : Oper} {f : Operand → Option Value} {h : Heap} {v : Value} {K : Value → Heap → Prop} (H : Val P o f h v) (hK : K v h) : Eff P o f h K := by
  intro σ hσ w hw
  rw [H σ hσ w hw]
  exact ⟨Same.refl w, by rw [hw]; exact hK⟩

def ExtOk (P : Program) (f : FuncId) : Ext → Prop
  | .go => ∃ fn, P.funcs[f]? = some fn ∧ (fn.name == "runtime.NumGoroutine") = false ∧ fn.body.isNone = false
  | .load k => ∃ fn, P.funcs[f]? = some fn ∧ (fn.name == "runtime.NumGoroutine") = false ∧ fn.body.isNone = true ∧ Extern.findNext fn = none ∧ Extern.find fn = some (Extern.Atomic.loadT (.int k))
  | .store => ∃ fn, P.funcs[f]? = some fn ∧ (fn.name == "runtime.NumGoroutine") = false ∧ fn.body.isNone = true ∧ Extern.findNext fn = none ∧ Extern.find fn = some Extern.Atomic.storeT
  | .cas k => ∃ fn, P.funcs[f]? = some fn ∧ (fn.name == "runtime.NumGoroutine") = false ∧ fn.body.isNone = true ∧ Extern.findNext fn = none ∧ Extern.find fn = some (Extern.Atomic.casT (.int k))
  | .add k => ∃ fn, P.funcs[f]? = some fn ∧ (fn.name == "runtime.NumGoroutine") = false ∧ fn.body.isNone = true ∧ Extern.findNext fn = none ∧ Extern.find fn = some (Extern.Atomic.update (Op.intArith .add) k true)
def XOk (P : Program) (X : List (Nat × Ext)) : Prop := ∀ f e, xget X f = some e → ExtOk P f e

def XAll (P : Program) (X : List (Nat × Ext)) : Prop := ∀ p ∈ X, ExtOk P p.1 p.2
theorem xok_nil {P : Program} : XAll P [] := by intro p hp; simp at hp
theorem xok_cons {P : Program} {f : Nat} {e : Ext} {X : List (Nat × Ext)} (h : ExtOk P f e) (hX : XAll P X) : XAll P ((f, e) :: X) := by
  intro p hp
  rcases List.mem_cons.1 hp with rfl | hp
  · exact h
  · exact hX p hp
theorem xget_mem {f : Nat} {e : Ext} : ∀ {X : List (Nat × Ext)}, xget X f = some e → (f, e) ∈ X := by
  intro X
  induction X with
  | nil => intro h; simp [xget] at h
  | cons p X ih =>
    intro h
    obtain ⟨k, u⟩ := p
    simp only [xget] at h
    split at h
    · rename_i hb
      have := Nat.eq_of_beq_eq_true hb
      subst this
      simp at h; subst h; simp
    · exact List.mem_cons_of_mem _ (ih h)
theorem xok_of_all {P : Program} {X : List (Nat × Ext)} (h : XAll P X) : XOk P X := fun f e hx => h (f, e) (xget_mem hx)

theorem run_enter {P : Program} {f : FuncId} (h : ExtOk P f .go) (args : Array Value) (w : World) : (callFunc f args).run P w = .ok (.enter f args) w := by
  obtain ⟨fn, hf, hn, hb⟩ := h
  simp only [callFunc, Sem.run_bind, run_program, Result.andThen_ok, hf, hn, hb, Bool.false_eq_true, if_false, Sem.run_pure]

theorem resK_elim {P : Program} {ty : TypeId} {v : Value} {K : Value → Prop} (H : resK P ty v K) : K v := by
  unfold resK at H
  split at H
  · obtain ⟨zs, _, H⟩ := opt_elim H
    obtain ⟨vs, he, H⟩ := exT_elim H
    rw [he]; exact H
  · obtain ⟨z, _, H⟩ := opt_elim H
    split at H
    · obtain ⟨vs, he, H⟩ := exL_elim H
      rw [he]; exact H
    · obtain ⟨u, he, H⟩ := ldK_elim H
      simp only [Option.some.injEq] at he
      rw [he]; exact H
  · exact H.elim

theorem callE_sound {P : Program} {f : FuncId} {args : List Value} {ty : TypeId} {h : Heap} {K : Value → Heap → Prop} (hgo : ExtOk P f .go) (H : callE P f args ty h K) (w : World) (hw : w.heap = h) :
    EffR P K w ((callFunc f args.toArray).run P w) := by
  rw [run_enter hgo]
  refine ⟨Same.refl w, (H w hw).mono fun e w'' ⟨v, he, hs, hK⟩ => ⟨v, he, hs, resK_elim hK⟩⟩

theorem stK_elim {P : Program} {h : Heap} {a : Addr} {v : Value} {K : Heap → Prop} (H : stK h a v K) :
    K (wr h a v) ∧ ∀ (m : Mode) (w : World), w.heap = h → (store a v m).run P w = .ok () (w.setCell a v) := by
  unfold stK at H
  split at H
  case h_2 => exact H.elim
  rename_i ho
  obtain ⟨hr, hf, H⟩ := H
  refine ⟨H, fun m w hw => ?_⟩
  obtain ⟨u, hu⟩ := Option.isSome_iff_exists.1 hr
  rw [run_store P w a v m ho]
  have h1 : w.cell? a = some u := by rw [cell_rd, hw, hu]
  have h2 : w.frozen? a = false := by rw [frozen_fz, hw, hf]
  simp [h1, h2]

theorem stL_elim {P : Program} {a : Addr} : ∀ {vs : List Value} {i : Nat} {h : Heap} {K : Heap → Prop}, stL a i vs h K →
    ∀ w : World, w.heap = h → ∃ w', (storeCells a vs i).run P w = .ok () w' ∧ Same w w' ∧ K w'.heap := by
  intro vs
  induction vs with
  | nil => intro i h K H w hw; exact ⟨w, by simp [storeCells], Same.refl w, by rw [hw]; exact H⟩
  | cons v vs ih =>
    intro i h K H w hw
    obtain ⟨H, hs⟩ := stK_elim (P := P) H
    obtain ⟨w', hr, hsame, hK⟩ := ih H (w.setCell (a.add i) v) (by rw [set_wr, hw])
    refine ⟨w', ?_, Same.trans ⟨rfl, rfl, rfl⟩ hsame, hK⟩
    simp only [storeCells, Sem.run_bind]
    rw [hs .plain w hw]
    simp only [Result.andThen_ok, hr]

theorem goE_sound {P : Program} {X : List (Nat × Ext)} (hX : XOk P X) {f : FuncId} {args : List Value} {ty : TypeId} {h : Heap} {K : Value → Heap → Prop} (H : goE P X f args ty h K) (w : World) (hw : w.heap = h) :
    EffR P K w ((callFunc f args.toArray).run P w) := by
  unfold goE at H
  split at H
  · rename_i hx; exact callE_sound (hX _ _ hx) H w hw
  · rename_i e hne hx
    have hok := hX _ _ hx
    unfold extE at H
    split at H
    · rename_i k p
      obtain ⟨a, rfl, n, hr, H⟩ := ptr_elim H
      obtain ⟨fn, hf, hn, hb, hnx, hfd⟩ := hok
      have hc : w.cell? a = some (.int k n) := by rw [cell_rd, hw, hr]
      rw [run_call_load hf hn hb hnx k hfd hc]
      exact ⟨Same.refl w, by rw [hw]; exact H⟩
    · rename_i p k y
      obtain ⟨a, rfl, H⟩ := ptr_elim H
      obtain ⟨fn, hf, hn, hb, hnx, hfd⟩ := hok
      unfold stK at H
      split at H
      case h_2 => exact H.elim
      obtain ⟨hr, hfz, H⟩ := H
      obtain ⟨u, hu⟩ := Option.isSome_iff_exists.1 hr
      have hc : w.cell? a = some u := by rw [cell_rd, hw, hu]
      have hz : w.frozen? a = false := by rw [frozen_fz, hw, hfz]
      rw [run_call_store hf hn hb hnx hfd hc hz]
      exact ⟨⟨rfl, rfl, rfl⟩, by rw [set_wr, hw]; exact H⟩
    · rename_i k p k1 x k2 y
      split at H
      case h_2 => exact H.elim
      rename_i e1 e2
      have e1 := ikb_eq e1; have e2 := ikb_eq e2
      subst e1; subst e2
      obtain ⟨a, rfl, n, hr, H⟩ := ptr_elim H
      obtain ⟨fn, hf, hn, hb, hnx, hfd⟩ := hok
      have hc : w.cell? a = some (.int k n) := by rw [cell_rd, hw, hr]
      rcases bcase_elim H with ⟨he, H2⟩ | ⟨he, H2⟩
      · have he : n = x := by simpa using he
        subst he
        obtain ⟨_, hfz, H2⟩ := H2
        have hz : w.frozen? a = false := by rw [frozen_fz, hw, hfz]
        rw [run_call_cas_hit hf hn hb hnx k hfd hc hz]
        exact ⟨⟨rfl, rfl, rfl⟩, by rw [set_wr, hw]; exact H2⟩
      · have he : ¬ n = x := by simpa using he
        obtain ⟨hfz, H2⟩ := H2
        have hz : w.frozen? a = false := by rw [frozen_fz, hw, hfz]
        rw [run_call_cas_miss hf hn hb hnx k hfd hc hz he]
        exact ⟨Same.refl w, by rw [hw]; exact H2⟩
    · rename_i k p k1 y
      split at H
      case h_2 => exact H.elim
      rename_i e1
      have e1 := ikb_eq e1
      subst e1
      obtain ⟨a, rfl, n, hr, _, hfz, H⟩ := ptr_elim H
      obtain ⟨fn, hf, hn, hb, hnx, hfd⟩ := hok
      have hc : w.cell? a = some (.int k n) := by rw [cell_rd, hw, hr]
      have hz : w.frozen? a = false := by rw [frozen_fz, hw, hfz]
      rw [run_call_add hf hn hb hnx k hfd hc hz (s := k.wrap (n + y)) (by simp [Op.intArith])]
      exact ⟨⟨rfl, rfl, rfl⟩, by rw [set_wr, hw]; exact H⟩
    · exact H.elim
  · exact H.elim

theorem dynE_sound {P : Program} {X : List (Nat × Ext)} (hX : XOk P X) {f : Value} {args : List Value} {ty : TypeId} {h : Heap} {K : Value → Heap → Prop} (H : dynE P X f args ty h K) (w : World) (hw : w.heap = h) :
    EffR P K w ((do let d ← Deferred.ofValue f args.toArray; invoke d.target d.args).run P w) := by
  unfold dynE dynK at H
  split at H
  case h_2 => exact H.elim
  rename_i g first captured
  split at H
  case h_2 => exact H.elim
  rename_i hx
  have := callE_sound (ty := ty) (hX _ _ hx) H w hw
  have e : (first.toList ++ args ++ captured.toList).toArray = first ++ args.toArray ++ captured := by
    apply Array.ext'; simp
  rw [e] at this
  simpa [Deferred.ofValue, invoke] using this

theorem run_mthd {P : Program} {t : TypeId} {name : String} {f : FuncId} (h : mthd P t name = some f) (n : Nat) (v : Value) (w : World) :
    (method (n + 1) t v name).run P w = .ok (f, v) w := by
  unfold mthd at h
  split at h
  case h_2 => simp at h
  rename_i i e hi hu
  split at h
  case h_2 => simp at h
  rename_i m hm
  split at h
  case h_2 => simp at h
  rename_i g hp hf
  simp at h; subst h
  have hp : m.path.toList = [] := by simpa [Array.isEmpty_iff] using hp
  unfold method
  simp [run_ti hi, hm, hp, follow, hf, receiverAt, run_und hu, Place.get]

theorem invE_sound {P : Program} {X : List (Nat × Ext)} (hX : XOk P X) {r : Value} {name : String} {args : List Value} {ty : TypeId} {h : Heap} {K : Value → Heap → Prop} (H : invE P X r name args ty h K) (w : World) (hw : w.heap = h) :
    EffR P K w ((invoke (.fn (.method name) #[]) (#[r] ++ args.toArray)).run P w) := by
  unfold invE at H
  split at H
  case h_2 => exact H.elim
  rename_i t v
  split at H
  case h_2 => exact H.elim
  rename_i f hf
  split at H
  case h_2 => exact H.elim
  rename_i hx
  have := callE_sound (hX _ _ hx) H w hw
  have e : (#[Value.iface t v] ++ args.toArray).extract 1 (1 + args.length) = args.toArray := by
    apply Array.ext'; simp
  have e2 : (v :: args).toArray = #[v] ++ args.toArray := by apply Array.ext'; simp
  have hm : ∀ w, (method (P.types.size + Made.depth) t v name).run P w = .ok (f, v) w := fun w => run_mthd hf (P.types.size + 99) v w
  rw [e2] at this
  have g0 : (#[Value.iface t v] ++ args.toArray)[0]? = some (.iface t v) := by simp
  simp only [invoke, g0]
  simp only [Array.size_append, List.size_toArray, List.length_cons, List.length_nil, Nat.zero_add, e]
  simp only [callMethod, Sem.run_bind, run_program, Result.andThen_ok, hm]
  exact this

theorem sizeB_spec {P : Program} {t : TypeId} {sz by_ : Nat} {z : Array Value} (h : sizeB P t = some (sz, by_, z)) :
    ∃ i v, P.info? t = some i ∧ i.zero = some v ∧ i.size = sz ∧ i.bytes = by_ ∧ v.cells = z := by
  unfold sizeB at h
  split at h
  case h_2 => simp at h
  rename_i i hi
  split at h
  case h_2 => simp at h
  rename_i v hv
  simp at h
  obtain ⟨rfl, rfl, rfl⟩ := h
  exact ⟨i, v, hi, hv, rfl, rfl, rfl⟩

theorem isRow_load {P : Program} {h : Heap} {a : Addr} {cs : List Value} {n : Nat} (H : isRow h a cs) (hn : cs.length = n) (w : World) (hw : w.heap = h) : (loadCells a n).run P w = .ok cs.toArray w := by
  subst hn
  exact run_loadCells_list (P := P) (w := w) a cs fun j v hj => by rw [cell_rd, hw]; exact H j v hj

theorem first_ok {P : Program} {h : Heap} {q : Option Addr} {sz n c : Nat} {cs : List Value} (hl : cs.length = n * sz) (H : match q with | some b => isRow h b cs | none => n = 0) (w : World) (hw : w.heap = h) :
    (Builtin.firstCells sz n (.slice q n c)).run P w = .ok cs.toArray w := by
  cases q with
  | none => simp at H; subst H; simp at hl; subst hl; simp [Builtin.firstCells]
  | some b => simp only [Builtin.firstCells]; exact isRow_load H hl w hw

theorem appK_sound {P : Program} {t u e ty : TypeId} {sz by_ : Nat} {z : Array Value} {p q : Option Addr} {l c n c' : Nat} {h : Heap} {K : Value → Heap → Prop}
    (ht : P.underlying t = some (.slice e)) (hu : ∃ e', P.underlying u = some (.slice e')) (hs : sizeB P e = some (sz, by_, z)) (hby : 1 ≤ by_)
    (H : appK h e sz by_ z p l c q n fun p' l' c' h' => K (.slice p' l' c') h') (w : World) (hw : w.heap = h) :
    ∃ v w', (Builtin.append_ #[t, u] ty #[.slice p l c, .slice q n c']).run P w = .ok v w' ∧ Same w w' ∧ K v w'.heap := by
  obtain ⟨i, zv, hi, hz, hsz, hb, hzc⟩ := sizeB_spec hs
  obtain ⟨e', hu⟩ := hu
  obtain ⟨new, hnl, hnew, hroom, hgrow⟩ := H
  have hso : ∀ w, (sizeOf e).run P w = .ok sz w := fun w => by rw [run_so hi, hsz]
  have hti : ∀ w, (typeInfo e).run P w = .ok i w := fun w => run_ti hi w
  have hzv : ∀ w, (zeroValue e).run P w = .ok zv w := fun w => by simp [zeroValue, hti, hz]
  have hfirst := fun w hw => first_ok (P := P) (c := c') hnl hnew w hw
  by_cases hle : l + n ≤ c
  · have hroom := hroom hle
    cases p with
    | none =>
      obtain ⟨hz0, hK⟩ := hroom
      have hn0 : new = [] := List.eq_nil_of_length_eq_zero (hnl.trans hz0)
      refine ⟨_, w, ?_, Same.refl w, by rw [hw]; exact hK⟩
      simp [Builtin.append_, run_und ht, run_und hu, hso, Builtin.lenOf, hle, hfirst w hw]
    | some a =>
      obtain ⟨w', hr, hsame, hK⟩ := stL_elim (P := P) hroom w hw
      refine ⟨_, w', ?_, hsame, hK⟩
      simp [Builtin.append_, run_und ht, run_und hu, hso, Builtin.lenOf, hle, hfirst w hw, hr]
  · obtain ⟨old, hol, hold, hbound, hK⟩ := hgrow (by omega)
    have hb1 : Builtin.nextslicecap (l + n) c * i.bytes ≤ 281474976710656 := by
      rw [hb]; exact growslice_fits (by omega) hbound
    have hb2 : l + n ≤ 140737488355328 := Nat.le_trans (Nat.le_mul_of_pos_right _ hby) hbound
    have hmax : ¬ (((l : Int) + n > IntKind.i64.max) ∧ i.bytes = 0) := by
      rintro ⟨_, h0⟩; omega
    subst hsz
    have hdrew : w.drew.heap = h := hw
    have hold' := first_ok (P := P) (c := c) hol hold w.drew hdrew
    have hnew' := hfirst w.drew hdrew
    have hK := hK (Question.cut (.appendCap (l + n) c e) (w.tape w.drawn (.appendCap (l + n) c e))) (by simp [Question.cut])
    rw [← hw, ← hzc] at hK
    refine ⟨_, w.drew.alloc (.cells (old.toArray ++ new.toArray ++ Builtin.zeroCells zv.cells (Question.cut (.appendCap (l + n) c e) (w.tape w.drawn (.appendCap (l + n) c e)) - (l + n))) e), ?_, ⟨rfl, rfl, rfl⟩, hK⟩
    have h63' : ¬ (9223372036854775807 < ((l : Int) + (n : Int))) := by omega
    have h48' : ¬ (281474976710656 < Builtin.nextslicecap (l + n) c * i.bytes) := by omega
    simp [Builtin.append_, run_und ht, run_und hu, sizeOf, typeInfo, zeroValue, hi, hz, Builtin.lenOf, hle, h63', h48', Question.forced, hold', hnew', newRow]
    congr 2
    apply Array.ext'
    simp [List.append_assoc]

theorem copyK_sound {P : Program} {t u e ty : TypeId} {ti : TypeInfo} {p q : Option Addr} {l c n c' : Nat} {h : Heap} {K : Value → Heap → Prop}
    (ht : P.underlying t = some (.slice e)) (hti : P.info? e = some ti)
    (H : copyK h ti.size p l q n fun m h' => K (.int .i64 m) h') (w : World) (hw : w.heap = h) :
    ∃ v w', (Builtin.copy_ #[t, u] ty #[.slice p l c, .slice q n c']).run P w = .ok v w' ∧ Same w w' ∧ K v w'.heap := by
  obtain ⟨new, hnl, hnew, H⟩ := H
  have hfirst : (Builtin.firstCells ti.size (Nat.min n l) (.slice q n c')).run P w = .ok new.toArray w := by
    cases q with
    | none => simp at hnew; subst hnew; simp at hnl; subst hnl; simp [Builtin.firstCells]
    | some b => simp only [Builtin.firstCells]; exact isRow_load hnew hnl w hw
  cases p with
  | none =>
    refine ⟨_, w, ?_, Same.refl w, by rw [hw]; exact H⟩
    simp only [Builtin.copy_, List.getElem?_toArray, List.getElem?_cons_zero, List.getElem?_cons_succ, Sem.run_bind, run_und ht, Result.andThen_ok, Builtin.lenOf, Sem.run_pure, run_so hti, hfirst]
    simp [goInt]
  | some a =>
    obtain ⟨w', hr, hsame, hK⟩ := stL_elim (P := P) H w hw
    refine ⟨_, w', ?_, hsame, hK⟩
    simp only [Builtin.copy_, List.getElem?_toArray, List.getElem?_cons_zero, List.getElem?_cons_succ, Sem.run_bind, run_und ht, Result.andThen_ok, Builtin.lenOf, Sem.run_pure, run_so hti, hfirst]
    simp [goInt, hr]

theorem storeE_sound {P : Program} {t : TypeId} {p : Option Addr} {v : Value} {h : Heap} {K : Heap → Prop} (H : storeE P t p v h K) (w : World) (hw : w.heap = h) :
    ∃ w', (Instr.storeAt t (.pointer p) v).run P w = .ok () w' ∧ Same w w' ∧ K w'.heap := by
  unfold storeE at H
  split at H
  case h_2 => exact H.elim
  rename_i ti hti
  split at H
  case h_2 => exact H.elim
  rename_i hs
  have hs := Nat.eq_of_beq_eq_true hs
  obtain ⟨a, rfl, H⟩ := ptr_elim H
  obtain ⟨w', hr, hsame, hK⟩ := stL_elim (P := P) H w hw
  refine ⟨w', ?_, hsame, hK⟩
  simp [Instr.storeAt, Instr.sureAddr, storeVar, run_so hti, hs, hr]

theorem makeSliceE_sound {P : Program} {t : TypeId} {a b : Value} {h : Heap} {K : Value → Heap → Prop} (H : makeSliceE P t a b h K) (w : World) (hw : w.heap = h) :
    ∃ v w', (Instr.makeSlice t a b).run P w = .ok v w' ∧ Same w w' ∧ K v w'.heap := by
  unfold makeSliceE at H
  split at H
  case h_2 => exact H.elim
  rename_i e k i k' j ht
  split at H
  case h_2 => exact H.elim
  rename_i sz by_ z hs
  obtain ⟨ti, zv, hi, hz, hsz, hb, hzc⟩ := sizeB_spec hs
  obtain ⟨h0, h1, h2, h3, H⟩ := H
  subst hsz; subst hzc; subst hb; subst hw
  exact ⟨_, _, run_make w t e ti zv ht hi hz k k' i j h0 h1 h2 h3, ⟨rfl, rfl, rfl⟩, H⟩

theorem buildSliceE_sound {P : Program} {t : TypeId} {n : Nat} {vs : List Value} {ix : List Nat} {h : Heap} {K : Value → Heap → Prop} (H : buildSliceE P t n (some vs) ix h K) (w : World) (hw : w.heap = h) :
    ∃ v w', (Instr.buildSlice t n (ix.zip vs).toArray).run P w = .ok v w' ∧ Same w w' ∧ K v w'.heap := by
  unfold buildSliceE at H
  split at H
  case h_2 => exact H.elim
  rename_i e vs' ht hv
  simp only [Option.some.injEq] at hv; subst hv
  split at H
  case h_2 => exact H.elim
  rename_i sz by_ z hs
  obtain ⟨ti, zv, hi, hz, hsz, hb, hzc⟩ := sizeB_spec hs
  split at H
  case h_2 => exact H.elim
  rename_i hble
  have hble := Nat.le_of_ble_eq_true hble
  obtain ⟨cells, hc, H2⟩ := opt_elim H
  clear H
  subst hsz; subst hzc; subst hw
  refine ⟨_, w.alloc (.cells cells e), ?_, ⟨rfl, rfl, rfl⟩, H2⟩
  have hzv : ∀ w, (zeroValue e).run P w = .ok zv w := fun w => by simp [zeroValue, run_ti hi, hz]
  have hn : ¬ (n * ti.size > 2 ^ 24) := by omega
  by_cases h0 : n * ti.size = 0
  · have hc' : Instr.fill (fun i => some (i * ti.size, ti.size)) ((Array.range (n * ti.size)).map ((#[] : Array Value)[· % (#[] : Array Value).size]!)) (ix.zip vs) = some cells := by
      rw [← hc]; simp [madeCells, h0, Array.range_zero']
    simp only [Instr.buildSlice, Sem.run_bind, run_und ht, Result.andThen_ok, run_so hi, h0, if_true, Sem.run_ite, Sem.run_pure] at hc' ⊢
    rw [hc']
    simp [newRow]
  · simp only [Instr.buildSlice, Sem.run_bind, run_und ht, Result.andThen_ok, run_so hi, hn, h0, if_false, Sem.run_ite, Sem.run_pure, hzv]
    unfold madeCells at hc
    rw [hc]
    simp [newRow]

theorem run_setObj {P : Program} {w : World} {b : Nat} {es : Array MapEntry} {cl : Nat} (h : w.heap[b]? = some (.map es cl)) (o : Obj) : (setObj b o).run P w = .ok () { w with heap := w.heap.setIfInBounds b o } := by
  simp [setObj, Sem.run, h]
theorem run_stays {P : Program} {old new : Value} (h : Instr.sameBits 10000 old new = true) (w : World) : (Instr.keyThatStays old new).run P w = .ok new w := by
  simp [Instr.keyThatStays, h]

theorem mapUpdateE_sound {P : Program} {t : TypeId} {m k v : Value} {h : Heap} {K : Heap → Prop} (H : mapUpdateE P t m k v h K) (w : World) (hw : w.heap = h) :
    ∃ w', (Instr.mapUpdate t m k v).run P w = .ok () w' ∧ Same w w' ∧ K w'.heap := by
  unfold mapUpdateE at H
  split at H
  case h_2 => exact H.elim
  rename_i kt et r kk kn ht
  split at H
  case h_2 => exact H.elim
  rename_i k1 hk
  obtain ⟨b, rfl, es, cl, hm, o, hf, H⟩ := opt_elim H
  subst hw
  have hb := mp_heap hm
  cases o with
  | none =>
    refine ⟨{ w with heap := w.heap.setIfInBounds b (.map (es.push { key := .int kk kn, val := v, born := cl }) (cl + 1)) }, ?_, ⟨rfl, rfl, rfl⟩, H⟩
    simp [Instr.mapUpdate, run_und ht, run_getObj hb, run_checkKey hk, run_findKey hk hf, run_setObj hb]
  | some q =>
    obtain ⟨i, u⟩ := q
    obtain ⟨hsame, H⟩ := H
    refine ⟨{ w with heap := w.heap.setIfInBounds b (.map (es.modify i fun e => { e with key := .int kk kn, val := v }) cl) }, ?_, ⟨rfl, rfl, rfl⟩, H⟩
    simp only [Instr.mapUpdate, Sem.run_bind, run_und ht, Result.andThen_ok, run_getObj hb, run_checkKey hk, run_findKey hk hf, run_stays hsame, run_setObj hb]

theorem mapEntryE_sound {P : Program} {t : TypeId} {m k : Value} {h : Heap} {K : Value → Heap → Prop} (H : mapEntryE P t m k h K) (w : World) (hw : w.heap = h) :
    ∃ v w', (Instr.mapEntry t m k).run P w = .ok v w' ∧ Same w w' ∧ K v w'.heap := by
  unfold mapEntryE at H
  split at H
  case h_2 => exact H.elim
  rename_i kt et r kk kn ht
  split at H
  case h_2 => exact H.elim
  rename_i k1 z hk hz
  obtain ⟨b, rfl, es, cl, hm, o, hf, H⟩ := opt_elim H
  subst hw
  have hb := mp_heap hm
  cases o with
  | none =>
    obtain ⟨u, hu, H⟩ := ldK_elim H
    simp only [Option.some.injEq] at hu; subst hu
    refine ⟨_, { w with heap := w.heap.setIfInBounds b (.map (es.push { key := .int kk kn, val := z, born := cl }) (cl + 1)) }, ?_, ⟨rfl, rfl, rfl⟩, H⟩
    simp [Instr.mapEntry, run_und ht, run_getObj hb, run_checkKey hk, run_findKey hk hf, run_setObj hb, run_zv hz, goInt]
  | some q =>
    obtain ⟨i, u⟩ := q
    obtain ⟨hsame, H⟩ := H
    obtain ⟨u', hu, H⟩ := ldK_elim H
    simp only [Option.some.injEq] at hu; subst hu
    refine ⟨_, { w with heap := w.heap.setIfInBounds b (.map (es.modify i fun e => { e with key := .int kk kn }) cl) }, ?_, ⟨rfl, rfl, rfl⟩, H⟩
    simp only [Instr.mapEntry, Sem.run_bind, run_und ht, Result.andThen_ok, run_getObj hb, run_checkKey hk, run_findKey hk hf, run_stays hsame, run_setObj hb, goInt, Sem.run_pure]

theorem entryStoreE_sound {P : Program} {t : TypeId} {m s v : Value} {h : Heap} {K : Heap → Prop} (H : entryStoreE m s v h K) (w : World) (hw : w.heap = h) :
    ∃ w', (Instr.entryStore t m s v).run P w = .ok () w' ∧ Same w w' ∧ K w'.heap := by
  unfold entryStoreE at H
  split at H
  case h_2 => exact H.elim
  rename_i r k st
  obtain ⟨b, rfl, es, cl, hm, i, hi, H⟩ := opt_elim H
  subst hw
  have hb := mp_heap hm
  refine ⟨{ w with heap := w.heap.setIfInBounds b (.map (es.modify i fun e => { e with val := v }) cl) }, ?_, ⟨rfl, rfl, rfl⟩, H⟩
  simp [Instr.entryStore, run_getObj hb, asInt, asIntOf, hi, run_setObj hb]

theorem clearE_sound {P : Program} {t ty : TypeId} {x : Value} {h : Heap} {K : Heap → Prop} (H : clearE P t x h K) (w : World) (hw : w.heap = h) :
    ∃ w', (Builtin.clear_ #[t] ty #[x]).run P w = .ok (.tuple #[]) w' ∧ Same w w' ∧ K w'.heap := by
  unfold clearE at H
  split at H
  case h_2 => exact H.elim
  rename_i e p n c ht
  split at H
  case h_2 => exact H.elim
  rename_i sz by_ z hs
  obtain ⟨i, zv, hi, hz, hsz, hb, hzc⟩ := sizeB_spec hs
  have hzv : ∀ w, (zeroValue e).run P w = .ok zv w := fun w => by simp [zeroValue, run_ti hi, hz]
  unfold clrK at H
  cases p with
  | none => exact ⟨w, by simp [Builtin.clear_, run_und ht], Same.refl w, by rw [hw]; exact H⟩
  | some a =>
    cases n with
    | zero =>
      refine ⟨w, by simp [Builtin.clear_, run_und ht], Same.refl w, ?_⟩
      rw [hw]
      simpa [Builtin.zeroCells, stL] using H
    | succ n =>
      obtain ⟨w', hr, hsame, hK⟩ := stL_elim (P := P) H w hw
      refine ⟨w', ?_, hsame, hK⟩
      subst hzc
      simp [Builtin.clear_, run_und ht, hzv, hr]
theorem deleteE_sound {P : Program} {t u ty : TypeId} {m k : Value} {h : Heap} {K : Heap → Prop} (H : deleteE P t m k h K) (w : World) (hw : w.heap = h) :
    ∃ w', (Builtin.delete_ #[t, u] ty #[m, k]).run P w = .ok (.tuple #[]) w' ∧ Same w w' ∧ K w'.heap := by
  unfold deleteE at H
  split at H
  case h_2 => exact H.elim
  rename_i kt et r kk kn ht
  split at H
  case h_2 => exact H.elim
  rename_i k1 hk
  obtain ⟨b, rfl, es, cl, hm, o, hf, H⟩ := opt_elim H
  subst hw
  have hb := mp_heap hm
  cases o with
  | none =>
    refine ⟨{ w with heap := w.heap.setIfInBounds b (.map es cl) }, ?_, ⟨rfl, rfl, rfl⟩, H⟩
    simp [Builtin.delete_, run_und ht, run_getObj hb, run_checkKey hk, run_findKey hk hf, run_setObj hb]
  | some q =>
    obtain ⟨i, u⟩ := q
    refine ⟨{ w with heap := w.heap.setIfInBounds b (.map (es.eraseIdxIfInBounds i) cl) }, ?_, ⟨rfl, rfl, rfl⟩, H⟩
    simp [Builtin.delete_, run_und ht, run_getObj hb, run_checkKey hk, run_findKey hk hf, run_setObj hb]

theorem effE_sound {P : Program} {X : List (Nat × Ext)} (hX : XOk P X) {o : Oper} {ρ : Fr} {h : Heap} {K : Value → Heap → Prop} (H : effE P X o.op o.type ρ h K) : Eff P o (ev ρ) h K := by
  obtain ⟨dst, op, type, pos, after, guard⟩ := o
  intro σ hσ w hw
  dsimp only at H hσ
  have liftv : ∀ {s : Sem Value}, execOp σ ⟨dst, op, type, pos, after, guard⟩ = (do pure (.value (← s))) →
      (∃ v w', s.run P w = .ok v w' ∧ Same w w' ∧ K v w'.heap) → EffR P K w ((execOp σ ⟨dst, op, type, pos, after, guard⟩).run P w) := by
    rintro s he ⟨v, w', hr, hs, hK⟩
    rw [he]; simp only [Sem.run_bind, hr, Result.andThen_ok, Sem.run_pure]
    exact ⟨hs, hK⟩
  have liftu : ∀ {s : Sem Unit}, execOp σ ⟨dst, op, type, pos, after, guard⟩ = (do s; pure .skip) →
      (∃ w', s.run P w = .ok () w' ∧ Same w w' ∧ K undef w'.heap) → EffR P K w ((execOp σ ⟨dst, op, type, pos, after, guard⟩).run P w) := by
    rintro s he ⟨w', hr, hs, hK⟩
    rw [he]; simp only [Sem.run_bind, hr, Result.andThen_ok, Sem.run_pure]
    exact ⟨hs, hK⟩
  unfold effE at H
  split at H
  · rename_i t
    obtain ⟨z, hz, H⟩ := opt_elim H
    subst hw
    exact liftv (s := Instr.alloc t true (.tuple #[])) rfl ⟨_, w.alloc (.cells z.cells t), by simp [Instr.alloc, run_zv hz, newVar, newRow], ⟨rfl, rfl, rfl⟩, H⟩
  · rename_i t x
    obtain ⟨v, hv, H⟩ := opt_elim H
    subst hw
    exact liftv (s := Instr.box t (σ x)) rfl ⟨_, w.alloc (.cells v.cells t), by rw [hσ x (by simp [Op.operands]) v hv]; simp [Instr.box, newVar, newRow], ⟨rfl, rfl, rfl⟩, H⟩
  · rename_i t a x
    split at H
    case h_2 => exact H.elim
    rename_i p hp
    obtain ⟨v, hv, H⟩ := opt_elim H
    exact liftu (s := Instr.storeAt t (σ a) (σ x)) rfl (by rw [hσ a (by simp [Op.operands]) _ hp, hσ x (by simp [Op.operands]) v hv]; exact storeE_sound H w hw)
  · rename_i t
    subst hw
    exact liftv (s := Instr.makeMap t none) rfl ⟨_, w.alloc (.map #[] 0), by simp [Instr.makeMap], ⟨rfl, rfl, rfl⟩, H⟩
  · rename_i t l c
    obtain ⟨a, ha, H⟩ := opt_elim H
    obtain ⟨b, hb, H⟩ := opt_elim H
    exact liftv (s := Instr.makeSlice t (σ l) (σ c)) rfl (by rw [hσ l (by simp [Op.operands]) a ha, hσ c (by simp [Op.operands]) b hb]; exact makeSliceE_sound H w hw)
  · rename_i t n ps
    cases hvs : evs ρ (ps.toList.map (·.2)) with
    | none => rw [hvs] at H; unfold buildSliceE at H; split at H <;> first | exact H.elim | simp at *
    | some vs =>
      rw [hvs] at H
      obtain ⟨hl, hm⟩ := evs_eq hvs
      have e : (ps.map fun (i, x) => (i, σ x)) = ((ps.toList.map (·.1)).zip vs).toArray := by
        rw [← hm σ fun x hx => hσ x (by simpa [Op.operands] using hx)]
        apply Array.ext'
        simp [List.zip_map', List.map_map]
      refine liftv rfl ?_
      rw [e]; exact buildSliceE_sound H w hw
  · rename_i t m k x
    obtain ⟨a, ha, H⟩ := opt_elim H
    obtain ⟨b, hb, H⟩ := opt_elim H
    obtain ⟨v, hv, H⟩ := opt_elim H
    exact liftu (s := Instr.mapUpdate t (σ m) (σ k) (σ x)) rfl (by rw [hσ m (by simp [Op.operands]) a ha, hσ k (by simp [Op.operands]) b hb, hσ x (by simp [Op.operands]) v hv]; exact mapUpdateE_sound H w hw)
  · rename_i t m k
    obtain ⟨a, ha, H⟩ := opt_elim H
    obtain ⟨b, hb, H⟩ := opt_elim H
    exact liftv (s := Instr.mapEntry t (σ m) (σ k)) rfl (by rw [hσ m (by simp [Op.operands]) a ha, hσ k (by simp [Op.operands]) b hb]; exact mapEntryE_sound H w hw)
  · rename_i t m s x
    obtain ⟨a, ha, H⟩ := opt_elim H
    obtain ⟨b, hb, H⟩ := opt_elim H
    obtain ⟨v, hv, H⟩ := opt_elim H
    exact liftu (s := Instr.entryStore t (σ m) (σ s) (σ x)) rfl (by rw [hσ m (by simp [Op.operands]) a ha, hσ s (by simp [Op.operands]) b hb, hσ x (by simp [Op.operands]) v hv]; exact entryStoreE_sound H w hw)
  · rename_i f args ats
    obtain ⟨xs, hxs, H2⟩ := opt_elim H
    clear H
    have hargs : args.map σ = xs.toArray := by
      rw [← (evs_eq hxs).2 σ fun x hx => hσ x (by simp only [Op.operands, Call.operands, Array.mem_append]; exact .inr (by simpa using hx))]
      apply Array.ext'; simp
    split at H2
    · rename_i g
      have := goE_sound hX H2 w hw
      have hex : execOp σ ⟨dst, .call { callee := .value (.func g), args := args, argTypes := ats }, type, pos, after, guard⟩ = (do let d ← Deferred.ofValue (σ (.func g)) (args.map σ); invoke d.target d.args) := rfl
      rw [hex, hσ (.func g) (by simp [Op.operands, Call.operands]) _ rfl, hargs]
      have e2 : (do let d ← Deferred.ofValue (.func (.func g) #[] #[]) xs.toArray; invoke d.target d.args) = callFunc g (#[] ++ xs.toArray ++ #[]) := rfl
      rw [e2]; simpa using this
    · obtain ⟨fv, hfv, H3⟩ := opt_elim H2
      have := dynE_sound hX H3 w hw
      have hex : execOp σ ⟨dst, .call { callee := .value f, args := args, argTypes := ats }, type, pos, after, guard⟩ = (do let d ← Deferred.ofValue (σ f) (args.map σ); invoke d.target d.args) := rfl
      rw [hex, hσ f (by simp [Op.operands, Call.operands]) _ hfv, hargs]; exact this
  · rename_i r name args ats
    obtain ⟨rv, hrv, H⟩ := opt_elim H
    obtain ⟨xs, hxs, H⟩ := opt_elim H
    have hargs : args.map σ = xs.toArray := by
      rw [← (evs_eq hxs).2 σ fun x hx => hσ x (by simp only [Op.operands, Call.operands, Array.mem_append]; exact .inr (by simpa using hx))]
      apply Array.ext'; simp
    have := invE_sound hX H w hw
    have hex : execOp σ ⟨dst, .call { callee := .invoke r name, args := args, argTypes := ats }, type, pos, after, guard⟩ = invoke (.fn (.method name) #[]) (#[σ r] ++ args.map σ) := rfl
    rw [hex, hσ r (by simp [Op.operands, Call.operands]) _ hrv, hargs]; exact this
  · rename_i b args ats
    obtain ⟨args⟩ := args
    obtain ⟨ats⟩ := ats
    split at H
    · rename_i x y t u e1 e2
      dsimp only at e1 e2; subst e1; subst e2
      obtain ⟨a, ha, H1⟩ := opt_elim H
      clear H
      obtain ⟨b, hb, H⟩ := opt_elim H1
      clear H1
      refine liftv (s := Builtin.append_ #[t, u] type #[σ x, σ y]) (by simp [execOp, resolve, invoke, builtin]) ?_
      rw [hσ x (by simp [Op.operands, Call.operands]) a ha, hσ y (by simp [Op.operands, Call.operands]) b hb]
      unfold appE at H
      split at H
      case h_2 => exact H.elim
      rename_i e e' p l c q n c' ht hu
      split at H
      case h_2 => exact H.elim
      rename_i sz by_ z hs
      split at H
      case h_2 => exact H.elim
      rename_i hby
      exact appK_sound ht ⟨_, hu⟩ hs (Nat.le_of_ble_eq_true hby) H w hw
    · rename_i x y t u e1 e2
      dsimp only at e1 e2; subst e1; subst e2
      obtain ⟨a, ha, H1⟩ := opt_elim H
      clear H
      obtain ⟨b, hb, H⟩ := opt_elim H1
      clear H1
      refine liftv (s := Builtin.copy_ #[t, u] type #[σ x, σ y]) (by simp [execOp, resolve, invoke, builtin]) ?_
      rw [hσ x (by simp [Op.operands, Call.operands]) a ha, hσ y (by simp [Op.operands, Call.operands]) b hb]
      unfold copyE at H
      split at H
      case h_2 => exact H.elim
      rename_i e p l _ q n _ ht
      split at H
      case h_2 => exact H.elim
      rename_i ti hti
      exact copyK_sound ht hti H w hw
    · rename_i x y t u e1 e2
      dsimp only at e1 e2; subst e1; subst e2
      obtain ⟨a, ha, H1⟩ := opt_elim H
      clear H
      obtain ⟨b, hb, H⟩ := opt_elim H1
      clear H1
      refine liftv (s := Builtin.delete_ #[t, u] type #[σ x, σ y]) (by simp [execOp, resolve, invoke, builtin]) ?_
      rw [hσ x (by simp [Op.operands, Call.operands]) a ha, hσ y (by simp [Op.operands, Call.operands]) b hb]
      obtain ⟨w', hr, hs, hK⟩ := deleteE_sound H w hw
      exact ⟨_, w', hr, hs, hK⟩
    · rename_i x t e1 e2
      dsimp only at e1 e2; subst e1; subst e2
      obtain ⟨a, ha, H1⟩ := opt_elim H
      clear H
      refine liftv (s := Builtin.clear_ #[t] type #[σ x]) (by simp [execOp, resolve, invoke, builtin]) ?_
      rw [hσ x (by simp [Op.operands, Call.operands]) a ha]
      obtain ⟨w', hr, hs, hK⟩ := clearE_sound H1 w hw
      exact ⟨_, w', hr, hs, hK⟩
    · exact H.elim
  · exact H.elim

end Go.Proofs.Ytipckkeaoncjiaa.Ev
