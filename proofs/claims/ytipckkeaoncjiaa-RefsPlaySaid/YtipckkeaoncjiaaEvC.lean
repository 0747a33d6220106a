/- EVALUATOR, part 3: what valE says of an operation holds of the model's own run. Conditions: none. -/
import Derived.Test.YtipckkeaoncjiaaEvB
namespace Go.Proofs.Ytipckkeaoncjiaa.Ev
open Go

def Agr (f : Operand → Option Value) (xs : Array Operand) (σ : Operand → Value) : Prop := ∀ x ∈ xs, ∀ v, f x = some v → σ x = v
def Val (P : Program) (o : Oper) (f : Operand → Option Value) (h : Heap) (v : Value) : Prop :=
  ∀ σ, Agr f o.op.operands σ → ∀ w : World, w.heap = h → (execOp σ o).run P w = .ok (.value v) w

theorem opt_elim {α : Type} {x : Option α} {K : α → Prop} (h : opt x K) : ∃ v, x = some v ∧ K v := by
  cases x with
  | none => exact h.elim
  | some v => exact ⟨v, rfl, h⟩
theorem bcase_elim {b : Bool} {p q : Prop} (h : bcase b p q) : (b = true ∧ p) ∨ (b = false ∧ q) := by
  cases b
  · exact .inr ⟨rfl, h⟩
  · exact .inl ⟨rfl, h⟩
theorem ptr_elim {p : Option Addr} {K : Addr → Prop} (h : ptrK p K) : ∃ a, p = some a ∧ K a := by
  cases p with
  | none => exact h.elim
  | some v => exact ⟨v, rfl, h⟩
theorem ex1_elim {z : Value} {K : Value → Prop} (h : ex1 z K) : ∃ v, K v := by
  unfold ex1 at h
  split at h
  · obtain ⟨n, h⟩ := h; exact ⟨_, h⟩
  · obtain ⟨n, h⟩ := h; exact ⟨_, h⟩
  · obtain ⟨n, h⟩ := h; exact ⟨_, h⟩
  · obtain ⟨p, l, c, h⟩ := h; exact ⟨_, h⟩
  · obtain ⟨n, h⟩ := h; exact ⟨_, h⟩
  · obtain ⟨n, h⟩ := h; exact ⟨_, h⟩
  · exact h
theorem exL_elim {zs : List Value} : ∀ {K : List Value → Prop}, exL zs K → ∃ vs, K vs := by
  induction zs with
  | nil => intro K h; exact ⟨[], h⟩
  | cons z zs ih => intro K h; obtain ⟨v, h⟩ := ex1_elim h; obtain ⟨vs, h⟩ := ih h; exact ⟨_, h⟩
theorem exK_elim {z : Value} {K : Value → Prop} (h : exK z K) : ∃ v, K v := by
  unfold exK at h
  split at h
  · obtain ⟨vs, h⟩ := exL_elim h; exact ⟨_, h⟩
  · exact ex1_elim h
theorem exT_elim {zs : List Value} : ∀ {K : List Value → Prop}, exT zs K → ∃ vs, K vs := by
  induction zs with
  | nil => intro K h; exact ⟨[], h⟩
  | cons z zs ih => intro K h; obtain ⟨v, h⟩ := exK_elim h; obtain ⟨vs, h⟩ := ih h; exact ⟨_, h⟩
theorem ldK_elim {z : Value} {x : Option Value} {K : Value → Prop} (h : ldK z x K) : ∃ v, x = some v ∧ K v := ex1_elim h
theorem ldL_elim {h : Heap} {a : Addr} : ∀ {zs : List Value} {i : Nat} {K : List Value → Prop}, ldL h a i zs K → ∃ vs : List Value, vs.length = zs.length ∧ (∀ j v, vs[j]? = some v → rd h (a.add (i + j)) = some v) ∧ K vs := by
  intro zs
  induction zs with
  | nil => intro i K H; exact ⟨[], rfl, by simp, H⟩
  | cons z zs ih =>
    intro i K H
    obtain ⟨v, hv, H⟩ := ldK_elim H
    obtain ⟨vs, hl, hr, H⟩ := ih H
    refine ⟨v :: vs, by simp [hl], fun j u hj => ?_, H⟩
    cases j with
    | zero => simp at hj; subst hj; exact hv
    | succ j => have := hr j u (by simpa using hj); rw [← this]; congr 2; omega

theorem cell_rd (w : World) (a : Addr) : w.cell? a = rd w.heap a := rfl
theorem frozen_fz (w : World) (a : Addr) : w.frozen? a = fz w.heap a := rfl
theorem set_wr (w : World) (a : Addr) (v : Value) : (w.setCell a v).heap = wr w.heap a v := rfl

theorem run_und {P : Program} {t : TypeId} {d : TypeDesc} (h : P.underlying t = some d) (w : World) : (underlying t).run P w = .ok d w := run_underlying h w
theorem run_ti {P : Program} {t : TypeId} {i : TypeInfo} (h : P.info? t = some i) (w : World) : (typeInfo t).run P w = .ok i w := by
  simp [typeInfo, h]
theorem run_so {P : Program} {t : TypeId} {i : TypeInfo} (h : P.info? t = some i) (w : World) : (sizeOf t).run P w = .ok i.size w := by
  simp [sizeOf, run_ti h]
theorem run_zv {P : Program} {t : TypeId} {z : Value} (h : zv P t = some z) (w : World) : (zeroValue t).run P w = .ok z w := by
  unfold zv at h
  cases hi : P.info? t with
  | none => simp [hi] at h
  | some i => simp [hi] at h; simp [zeroValue, run_ti hi, h]
theorem info_of_und {P : Program} {t : TypeId} {d : TypeDesc} (h : P.underlying t = some d) : ∃ i, P.info? t = some i := by
  unfold Program.underlying at h
  cases hi : P.info? t with
  | none => simp [hi] at h
  | some i => exact ⟨i, rfl⟩
theorem cellsOf_eq {P : Program} {t : TypeId} {i : TypeInfo} (h : P.info? t = some i) : P.cellsOf t = i.size := by
  simp [Program.cellsOf, h]
theorem run_isA {P : Program} {t : TypeId} {d : TypeDesc} (h : P.underlying t = some d) (w : World) : (isAgg t).run P w = .ok (isA d) w := by
  simp only [isAgg, Sem.run_bind, run_und h, Result.andThen_ok]
  cases d <;> rfl

theorem loadE_sound {P : Program} {t : TypeId} {h : Heap} {p : Option Addr} {K : Value → Prop} (H : loadE P t h p K) :
    ∃ v, K v ∧ ∀ w : World, w.heap = h → (Instr.loadAt t (.pointer p)).run P w = .ok v w := by
  unfold loadE at H
  split at H
  case h_2 => exact H.elim
  rename_i d z hd hz
  obtain ⟨i, hi⟩ := info_of_und hd
  split at H
  · rename_i ha
    split at H
    case h_2 => exact H.elim
    rename_i zs
    split at H
    case h_2 => exact H.elim
    rename_i hs
    have hs := Nat.eq_of_beq_eq_true hs
    obtain ⟨a, rfl, H⟩ := ptr_elim H
    obtain ⟨vs, hl, hr, H⟩ := ldL_elim H
    refine ⟨_, H, fun w hw => ?_⟩
    have hload : (loadCells a i.size).run P w = .ok vs.toArray w := by
      have := run_loadCells_list (P := P) (w := w) a vs (fun j v hj => by rw [cell_rd, hw, ← hr j v hj]; simp)
      rw [← this, hl, ← cellsOf_eq hi, ← hs]
      simp
    simp [Instr.loadAt, Instr.sureAddr, loadVar, run_isA hd, ha, run_so hi, hload]
  · rename_i ha
    obtain ⟨a, rfl, H⟩ := ptr_elim H
    obtain ⟨v, hv, H⟩ := ldK_elim H
    refine ⟨v, H, fun w hw => ?_⟩
    have hc : w.cell? a = some v := by rw [cell_rd, hw, hv]
    simp [Instr.loadAt, Instr.sureAddr, loadVar, run_isA hd, ha, hc]

theorem intE_sound {P : Program} {op : BinOp} {t : TypeId} {k : IntKind} {a b : Int} {K : Value → Prop} (hs : isSh op = false) (H : intE op k a b K) :
    ∃ v, K v ∧ ∀ w : World, (binOp op t (.int k a) (.int k b)).run P w = .ok v w := by
  cases op <;> simp only [intE] at H
  case quo => obtain ⟨hb, H⟩ := H; exact ⟨_, H, fun w => by simp [binOp, Op.intDiv, hb]⟩
  case rem => obtain ⟨hb, H⟩ := H; exact ⟨_, H, fun w => by simp [binOp, Op.intDiv, hb]⟩
  case and => exact ⟨_, H, fun w => by simp [binOp]; rfl⟩
  case or => exact ⟨_, H, fun w => by simp [binOp]; rfl⟩
  case xor => exact ⟨_, H, fun w => by simp [binOp]; rfl⟩
  case andNot => exact ⟨_, H, fun w => by simp [binOp]; rfl⟩
  all_goals exact ⟨_, H, fun w => by simp [binOp, Op.intArith, Op.intCmp]⟩

theorem shE_sound {P : Program} {op : BinOp} {t : TypeId} {k k' : IntKind} {a b : Int} {K : Value → Prop} (H : shE op k a b K) :
    ∃ v, K v ∧ ∀ w : World, (binOp op t (.int k a) (.int k' b)).run P w = .ok v w := by
  cases op <;> simp only [shE] at H <;> first
    | exact H.elim
    | (obtain ⟨hb, H⟩ := H
       have hb' : ¬ b < 0 := by omega
       exact ⟨_, H, fun w => by simp [binOp, Op.shift, hb']⟩)

theorem ikb_eq {k k' : IntKind} (h : ikb k k' = true) : k = k' := by cases k <;> cases k' <;> first | rfl | (simp [ikb] at h)



theorem run_part {P : Program} {t : TypeId} {d : TypeDesc} (hd : P.underlying t = some d) (ha : isA d = false) (cs : Array Value) (off : Nat) (v : Value) (hv : cs[off]? = some v) (w : World) :
    (part t cs off).run P w = .ok v w := by
  simp [part, run_isA hd, ha, hv]

theorem eqF {P : Program} {xs ys : Array Value} (d : Nat) (w : World) : ∀ (fs : List Field) (n : Nat) (b : Bool),
    (∀ (i : Nat) (f : Field), fs[i]? = some f → f.offset = n + i ∧ f.name ≠ "_" ∧ (∃ k, P.underlying f.type = some (.int k))) →
    (xs.toList.drop n).length = fs.length → eqL (xs.toList.drop n) (ys.toList.drop n) = some b → (Op.eqFields (d + 1) xs ys fs).run P w = .ok b w := by
  intro fs
  induction fs with
  | nil =>
    intro n b _ hl he
    have h0 : xs.toList.drop n = [] := List.eq_nil_of_length_eq_zero hl
    rw [h0] at he
    cases hy : ys.toList.drop n with
    | nil => rw [hy] at he; simp [eqL] at he; subst he; simp [Op.eqFields]
    | cons y l => rw [hy] at he; simp [eqL] at he
  | cons f fs ih =>
    intro n b hf hl he
    obtain ⟨ho, hn, hk⟩ := hf 0 f rfl
    cases hx : xs.toList.drop n with
    | nil => rw [hx] at hl; simp at hl
    | cons x xl =>
      cases hy : ys.toList.drop n with
      | nil => rw [hx, hy] at he; cases x <;> simp [eqL] at he
      | cons y yl =>
        have hxn : xs[n]? = some x := by
          have := congrArg (·[0]?) hx
          simpa using this
        have hyn : ys[n]? = some y := by
          have := congrArg (·[0]?) hy
          simpa using this
        have hx' : xs.toList.drop (n + 1) = xl := by rw [← List.drop_drop, hx]; rfl
        have hy' : ys.toList.drop (n + 1) = yl := by rw [← List.drop_drop, hy]; rfl
        rw [hx, hy] at he
        have ih' := fun b h => ih (n + 1) b (fun i g hg => by have := hf (i + 1) g (by simpa using hg); rw [this.1]; exact ⟨by omega, this.2⟩) (by rw [hx']; rw [hx] at hl; simpa using hl) h
        rw [hx', hy'] at ih'
        have hpx : (part f.type xs f.offset).run P w = .ok x w := by
          rw [ho]
          obtain ⟨k, hk⟩ := hk; exact run_part hk rfl _ _ _ hxn w
        have hpy : (part f.type ys f.offset).run P w = .ok y w := by
          rw [ho]
          obtain ⟨k, hk⟩ := hk; exact run_part hk rfl _ _ _ hyn w
        simp only [Op.eqFields, Sem.run_ite, hn, ne_eq, not_false_iff, if_true, Sem.run_bind, hpx, hpy, Result.andThen_ok]
        unfold eqL at he
        split at he
        · simp at *
        · rename_i k a _ k' c _ e1 e2
          simp only [List.cons.injEq] at e1 e2
          obtain ⟨rfl, rfl⟩ := e1; obtain ⟨rfl, rfl⟩ := e2
          split at he
          case h_2 => simp at he
          rename_i hkk
          split at he
          case h_2 => simp at he
          rename_i r hr
          simp only [Option.some.injEq] at he
          have hkk := ikb_eq hkk; subst hkk
          obtain ⟨k2, hk⟩ := hk
          rw [run_equalIn_int w d _ _ _ _ _ hk]
          simp only [Result.andThen_ok]
          by_cases hac : a = c
          · subst hac; simp at he; subst he; simpa using ih' _ hr
          · have : (a == c) = false := by simpa using hac
            simp [this] at he; subst he; simp [this]
        · simp at he

theorem flat_spec {P : Program} {t : TypeId} {fs : Array Field} (hu : P.underlying t = some (.struct fs)) (h : flatB P t = true) :
    P.stoodInHeld t = false ∧ P.eqGuardType P.depth t = false ∧ ∀ (i : Nat) (f : Field), fs[i]? = some f → f.offset = i ∧ f.name ≠ "_" ∧ (∃ k, P.underlying f.type = some (.int k)) := by
  simp only [flatB, hu, Bool.and_eq_true, Bool.not_eq_true', List.all_eq_true] at h
  refine ⟨h.1.1.1, h.1.1.2, fun i f hf => ?_⟩
  have := h.1.2 (f, i) (by
    rw [List.mem_iff_getElem?]
    exact ⟨i, by simp [List.getElem?_zipIdx, hf]⟩)
  simp only [beq_iff_eq, bne_iff_ne, ne_eq] at this
  refine ⟨this.1.1, this.1.2, ?_⟩
  have h3 := this.2
  split at h3
  · rename_i k hk; exact ⟨k, hk⟩
  · simp at h3

theorem eqE_sound {P : Program} {t : TypeId} {x y : Value} {K : Bool → Prop} (H : eqE P t x y K) :
    ∃ b, K b ∧ (∀ (op : BinOp) (u v : Operand) (w : World), (eqGuard op t u v x y).run P w = .ok () w) ∧ (∀ w : World, (Op.equal t x y).run P w = .ok b w) ∧
      (∀ w : World, (binOp .eql t x y).run P w = ((Op.equal t x y).run P w).andThen fun b w' => .ok (.bool b) w') ∧
      (∀ w : World, (binOp .neq t x y).run P w = ((Op.equal t x y).run P w).andThen fun b w' => .ok (.bool (!b)) w') := by
  have m : Op.maxDepth = 9999 + 1 := rfl
  unfold eqE at H
  split at H
  · rename_i hd
    split at H
    case h_2 => exact H.elim
    refine ⟨_, H, fun op u v w => by simp [eqGuard_at_bool], fun w => by unfold Op.equal; rw [m]; exact run_equalIn_bool' w _ _ _ _ hd, fun w => ?_, fun w => ?_⟩ <;> simp [binOp]
  · rename_i e hd
    have key : ∀ (p q : Option Addr), (p = none ∨ q = none) → ∀ w : World, (Op.equal t (.pointer p) (.pointer q)).run P w = .ok (p.isNone && q.isNone) w := by
      intro p q hpq w
      unfold Op.equal; rw [m]; unfold Op.equalIn
      cases p <;> cases q <;> simp [run_und hd] at hpq ⊢
    split at H
    case h_3 => exact H.elim
    · rename_i p
      refine ⟨_, H, fun op u v w => by simp [eqGuard_at_pointer], fun w => by rw [key _ _ (.inr rfl)]; simp, fun w => ?_, fun w => ?_⟩ <;> cases p <;> simp [binOp]
    · rename_i p _
      refine ⟨_, H, fun op u v w => by simp [eqGuard_at_pointer], fun w => by rw [key _ _ (.inl rfl)]; simp, fun w => ?_, fun w => ?_⟩ <;> cases p <;> simp [binOp]
  · rename_i fs hd
    split at H
    case h_2 => exact H.elim
    rename_i xs ys hfl
    split at H
    case h_2 => exact H.elim
    rename_i hsz
    have hsz := Nat.eq_of_beq_eq_true hsz
    obtain ⟨b, hb, H⟩ := opt_elim H
    obtain ⟨hp, hg, hf⟩ := flat_spec hd hfl
    have hfo : P.fieldsOf t = fs := by simp [Program.fieldsOf, hd]
    refine ⟨b, H, fun op u v w => run_eqGuard_agg w op t u v xs ys hg, fun w => ?_, fun w => ?_, fun w => ?_⟩
    · unfold Op.equal; rw [m, run_equalIn_struct w _ t xs ys (by rw [hfo]; exact hd) hp, hfo]
      exact eqF 9998 w fs.toList 0 b (fun i f hf' => by have := hf i f (by simpa using hf'); rw [this.1]; exact ⟨by omega, this.2⟩) (by simpa using hsz) (by simpa using hb)
    · rw [run_eql_struct]; rfl
    · rw [run_neq_struct]; rfl
  · exact H.elim

theorem binE_sound {P : Program} {op : BinOp} {t : TypeId} {x y : Value} {K : Value → Prop} (H : binE P op t x y K) :
    ∃ v, K v ∧ (∀ (u v : Operand) (w : World), (eqGuard op t u v x y).run P w = .ok () w) ∧ ∀ w : World, (binOp op t x y).run P w = .ok v w := by
  unfold binE at H
  split at H
  · rename_i k a k' b
    split at H
    · rename_i hs
      obtain ⟨v, hv, hr⟩ := shE_sound (P := P) (t := t) (k' := k') H
      exact ⟨v, hv, fun u v w => by simp [eqGuard_at_int], hr⟩
    · rename_i hs
      split at H
      case h_2 => exact H.elim
      rename_i hk
      have := ikb_eq hk
      subst this
      obtain ⟨v, hv, hr⟩ := intE_sound (P := P) (t := t) hs H
      exact ⟨v, hv, fun u v w => by simp [eqGuard_at_int], hr⟩
  · split at H
    case h_3 => exact H.elim
    · obtain ⟨b, hb, hg, he, h1, h2⟩ := eqE_sound H
      exact ⟨_, hb, hg _, fun w => by rw [h1, he]; rfl⟩
    · obtain ⟨b, hb, hg, he, h1, h2⟩ := eqE_sound H
      exact ⟨_, hb, hg _, fun w => by rw [h2, he]; rfl⟩

end Go.Proofs.Ytipckkeaoncjiaa.Ev
