/- HEAPS: blocks that hold cells, what is read there, what a store and a new block leave alone. Conditions: none. -/
import Derived.Test.YtipckkeaoncjiaaEvI
import Derived.Laws.OwnMore
namespace Go.Proofs.Ytipckkeaoncjiaa.Ev
open Go

/-- block b holds these cells, none of them frozen -/
def At (h : Heap) (b : Nat) (c : List Value) : Prop := ∃ e, h[b]? = some (.cells c.toArray e)
/-- of what was there, at most the blocks S have turned -/
structure Only (S : List Nat) (h h' : Heap) : Prop where
  size : h.size ≤ h'.size
  same : ∀ b, b < h.size → b ∉ S → h'[b]? = h[b]?
  fzn : ∀ a, fz h' a = fz h a

theorem At.lt {h : Heap} {b : Nat} {c : List Value} (H : At h b c) : b < h.size := by
  obtain ⟨e, H⟩ := H
  exact (Array.getElem?_eq_some_iff.1 H).1
theorem At.rd {h : Heap} {b : Nat} {c : List Value} (H : At h b c) (i : Nat) : rd h ⟨b, i, none⟩ = c[i]? := by
  obtain ⟨e, H⟩ := H
  simp [Ev.rd, H]
theorem At.fz {h : Heap} {b : Nat} {c : List Value} (H : At h b c) (i : Nat) (s : Option Nat) : fz h ⟨b, i, s⟩ = false := by
  obtain ⟨e, H⟩ := H
  simp [Ev.fz, H]
theorem At.only {S : List Nat} {h h' : Heap} {b : Nat} {c : List Value} (H : At h b c) (O : Only S h h') (hb : b ∉ S) : At h' b c := by
  obtain ⟨e, H⟩ := H
  exact ⟨e, (O.same b (Array.getElem?_eq_some_iff.1 H).1 hb).trans H⟩
theorem At.inj {h : Heap} {b : Nat} {c d : List Value} (H : At h b c) (G : At h b d) : c = d := by
  obtain ⟨e, H⟩ := H
  obtain ⟨f, G⟩ := G
  rw [H] at G
  injection G with G
  injection G with G
  exact List.toArray_inj G

theorem Only.refl (S : List Nat) (h : Heap) : Only S h h := ⟨Nat.le_refl _, fun _ _ _ => rfl, fun _ => rfl⟩
theorem Only.trans {S T : List Nat} {h h' h'' : Heap} (A : Only S h h') (B : Only T h' h'') (hT : ∀ b, b ∈ T → b < h.size → b ∈ S) : Only S h h'' :=
  ⟨Nat.le_trans A.size B.size, fun b hb hS => (B.same b (Nat.lt_of_lt_of_le hb A.size) (fun hbT => hS (hT b hbT hb))).trans (A.same b hb hS),
   fun a => (B.fzn a).trans (A.fzn a)⟩
theorem Only.mono {S T : List Nat} {h h' : Heap} (A : Only S h h') (hS : ∀ b, b ∈ S → b < h.size → b ∈ T) : Only T h h' :=
  Only.trans (Only.refl T h) A hS
theorem Only.push_cells (h : Heap) (c : Array Value) (e : TypeId) : Only [] h (h.push (.cells c e)) := by
  refine ⟨by simp, fun b hb _ => by simp [Array.getElem?_push, Nat.ne_of_lt hb], fun a => ?_⟩
  unfold fz
  rw [Array.getElem?_push]
  by_cases ha : a.block = h.size
  · rw [if_pos ha, ha]
    simp
  · rw [if_neg ha]
theorem Only.push_map (h : Heap) (es : Array MapEntry) (n : Nat) : Only [] h (h.push (.map es n)) := by
  refine ⟨by simp, fun b hb _ => by simp [Array.getElem?_push, Nat.ne_of_lt hb], fun a => ?_⟩
  unfold fz
  rw [Array.getElem?_push]
  by_cases ha : a.block = h.size
  · rw [if_pos ha, ha]
    simp
  · rw [if_neg ha]
theorem wr_other (h : Heap) (a : Addr) (v : Value) (b : Nat) (hb : b ≠ a.block) : (wr h a v)[b]? = h[b]? := by
  unfold wr
  rw [Array.getElem?_modify, if_neg (fun e => hb e.symm)]
theorem Only.wr (h : Heap) (a : Addr) (v : Value) : Only [a.block] h (wr h a v) := by
  refine ⟨by simp [Ev.wr], fun b _ hS => wr_other h a v b (by simpa using hS), fun x => ?_⟩
  unfold Ev.fz
  by_cases hx : x.block = a.block
  · unfold Ev.wr
    rw [Array.getElem?_modify, if_pos hx.symm]
    cases hh : h[x.block]? with
    | none => simp
    | some o => cases o <;> simp
  · rw [wr_other h a v x.block hx]
theorem At.wr {h : Heap} {b : Nat} {c : List Value} (H : At h b c) (i : Nat) (v : Value) : At (wr h ⟨b, i, none⟩ v) b (c.set i v) := by
  obtain ⟨e, H⟩ := H
  refine ⟨e, ?_⟩
  unfold Ev.wr
  rw [Array.getElem?_modify, if_pos rfl, H]
  simp
theorem At.push (h : Heap) (c : Array Value) (e : TypeId) : At (h.push (.cells c e)) h.size c.toList := ⟨e, by simp⟩
theorem At.push_old {h : Heap} {b : Nat} {c : List Value} (H : At h b c) (o : Obj) : At (h.push o) b c := by
  obtain ⟨e, H⟩ := H
  exact ⟨e, by rw [Array.getElem?_push, if_neg (Nat.ne_of_lt (Array.getElem?_eq_some_iff.1 H).1)]; exact H⟩

@[simp] theorem add_mk (b o n : Nat) : Addr.add ⟨b, o, none⟩ n = ⟨b, o + n, none⟩ := by
  unfold Addr.add
  split
  · next h => subst h; rfl
  · rfl
theorem add_zero (a : Addr) : Addr.add a 0 = a := by simp [Addr.add]

theorem ldI_of {k : IntKind} {x : Option Value} {K : Int → Prop} {n : Int} (hx : x = some (.int k n)) (hK : K n) : ldI k x K := ⟨n, hx, hK⟩
theorem ldB_of {x : Option Value} {K : Bool → Prop} {n : Bool} (hx : x = some (.bool n)) (hK : K n) : ldB x K := ⟨n, hx, hK⟩
theorem ldP_of {x : Option Value} {K : Option Addr → Prop} {n : Option Addr} (hx : x = some (.pointer n)) (hK : K n) : ldP x K := ⟨n, hx, hK⟩
theorem ldS_of {x : Option Value} {K : Option Addr → Nat → Nat → Prop} {p : Option Addr} {l c : Nat} (hx : x = some (.slice p l c)) (hK : K p l c) : ldS x K := ⟨p, l, c, hx, hK⟩
@[simp] theorem ldI_some {k : IntKind} {K : Int → Prop} {n : Int} : ldI k (some (.int k n)) K ↔ K n :=
  ⟨fun ⟨m, e, h⟩ => by injection e with e; injection e with _ e; exact e ▸ h, ldI_of rfl⟩
@[simp] theorem ldB_some {K : Bool → Prop} {n : Bool} : ldB (some (.bool n)) K ↔ K n :=
  ⟨fun ⟨m, e, h⟩ => by injection e with e; injection e with e; exact e ▸ h, ldB_of rfl⟩
@[simp] theorem ldP_some {K : Option Addr → Prop} {n : Option Addr} : ldP (some (.pointer n)) K ↔ K n :=
  ⟨fun ⟨m, e, h⟩ => by injection e with e; injection e with e; exact e ▸ h, ldP_of rfl⟩
@[simp] theorem ldS_some {K : Option Addr → Nat → Nat → Prop} {p : Option Addr} {l c : Nat} : ldS (some (.slice p l c)) K ↔ K p l c :=
  ⟨fun ⟨_, _, _, e, h⟩ => by injection e with e; injection e with e1 e2 e3; subst e1; subst e2; subst e3; exact h, ldS_of rfl⟩
@[simp] theorem ldM_some {K : Option Nat → Prop} {n : Option Nat} : ldM (some (.map n)) K ↔ K n :=
  ⟨fun ⟨m, e, h⟩ => by injection e with e; injection e with e; exact e ▸ h, fun h => ⟨n, rfl, h⟩⟩
@[simp] theorem ldV_some {K : Value → Prop} {v : Value} : ldV (some v) K ↔ K v :=
  ⟨fun ⟨m, e, h⟩ => by injection e with e; exact e ▸ h, fun h => ⟨v, rfl, h⟩⟩
@[simp] theorem ptrK_some {a : Addr} {K : Addr → Prop} : ptrK (some a) K ↔ K a := Iff.rfl
@[simp] theorem bcase_true {t f : Prop} : bcase true t f ↔ t := Iff.rfl
@[simp] theorem bcase_false {t f : Prop} : bcase false t f ↔ f := Iff.rfl
theorem bcase_of {b : Bool} {t f : Prop} (ht : b = true → t) (hf : b = false → f) : bcase b t f := by
  cases b with
  | true => exact ht rfl
  | false => exact hf rfl

theorem stK_at {h : Heap} {b i : Nat} {c : List Value} {v : Value} {K : Heap → Prop} (H : At h b c) (hi : i < c.length) (hv : v.oneCell' = true)
    (hK : ∀ h', At h' b (c.set i v) → Only [b] h h' → h'.size = h.size → K h') : stK h ⟨b, i, none⟩ v K := by
  unfold stK
  rw [hv]
  refine ⟨?_, H.fz i none, hK _ (H.wr i v) (Only.wr h ⟨b, i, none⟩ v) (by simp [Ev.wr])⟩
  rw [H.rd]
  simp [hi]
theorem newK_at {h : Heap} {c : Array Value} {e : TypeId} {K : Nat → Heap → Prop}
    (hK : ∀ h', At h' h.size c.toList → Only [] h h' → h'.size = h.size + 1 → K h.size h') : newK h (.cells c e) K :=
  hK _ (At.push h c e) (Only.push_cells h c e) (by simp)
theorem CallsH.mono {P : Program} {f : FuncId} {args : List Value} {h : Heap} {K K' : Value → Heap → Prop} (H : CallsH P f args h K) (hK : ∀ v h', K v h' → K' v h') : CallsH P f args h K' :=
  fun w hw => (H w hw).mono fun _ _ ⟨v, e, s, k⟩ => ⟨v, e, s, hK _ _ k⟩

theorem wrap_i64 {n : Int} (h0 : -9223372036854775808 ≤ n) (h1 : n < 9223372036854775808) : IntKind.wrap .i64 n = n := by
  rw [IntKind.wrap_i64]; omega
theorem wrap_u64 {n : Int} (h0 : 0 ≤ n) (h1 : n < 18446744073709551616) : IntKind.wrap .u64 n = n := by
  simp [IntKind.wrap, IntKind.bits, IntKind.signed]; omega
theorem wrap_u64' (n : Int) : IntKind.wrap .u64 n = n % 18446744073709551616 := by
  simp [IntKind.wrap, IntKind.bits, IntKind.signed]
theorem dynK_go {P : Program} {X : List (Nat × Ext)} {g : Nat} {first captured : Array Value} {args : List Value} {h : Heap} {K : Value → Heap → Prop} (hx : xget X g = some .go)
    (H : CallsH P g (first.toList ++ args ++ captured.toList) h K) : dynK P X (.func (.func g) first captured) args h K := by
  unfold dynK
  simp only [hx]
  exact H
end Go.Proofs.Ytipckkeaoncjiaa.Ev
