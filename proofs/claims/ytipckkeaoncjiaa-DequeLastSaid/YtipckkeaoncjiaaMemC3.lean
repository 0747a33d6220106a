/- CELLS (package mem): what each of its functions does to a row of cells, seen from the heap. Conditions: the row stands (MemIs). -/
import Derived.Test.YtipckkeaoncjiaaEvJ
import Derived.Test.YtipckkeaoncjiaaMemF3
namespace Go.Proofs.Ytipckkeaoncjiaa.Ev
open Go

/-- block m is a Mem, its cells are block c -/
structure MemIs (h : Heap) (m c : Nat) (cs : List Int) (ops fails : Int) : Prop where
  head : At h m [.slice (some ⟨c, 0, none⟩) cs.length cs.length, .int .i64 ops, .int .i64 fails]
  body : At h c (cs.map (.int .u64))
  ne : m ≠ c
theorem MemIs.only {S : List Nat} {h h' : Heap} {m c : Nat} {cs : List Int} {ops fails : Int} (H : MemIs h m c cs ops fails) (O : Only S h h') (hm : m ∉ S) (hc : c ∉ S) : MemIs h' m c cs ops fails :=
  ⟨H.head.only O hm, H.body.only O hc, H.ne⟩
/-- one more -/
def up (n : Int) : Int := IntKind.wrap .i64 (n + 1)
theorem up_of {n : Int} (h0 : 0 ≤ n) (h1 : n < 9223372036854775807) : up n = n + 1 := wrap_i64 (by omega) (by omega)

theorem c40 {h : Heap} {b i : Nat} {n : Int} {K : Value → Heap → Prop} (hr : rd h ⟨b, i, none⟩ = some (.int .u64 n)) (hK : K (.int .u64 n) h) :
    CallsH Try.prog 46 [.pointer (some ⟨b, i, none⟩)] h K := by
  apply F46.spec
  unfold F46.w F46.J0
  rw [add_zero]
  exact ldI_of hr hK
theorem c60 {h : Heap} {b i : Nat} {n : Int} {K : Value → Heap → Prop} (hr : rd h ⟨b, i, none⟩ = some (.int .i64 n)) (hK : K (.int .i64 n) h) :
    CallsH Try.prog 92 [.pointer (some ⟨b, i, none⟩)] h K := by
  apply F92.spec
  unfold F92.w F92.J0
  rw [add_zero]
  exact ldI_of hr hK
theorem c42 {h : Heap} {b i : Nat} {c : List Value} {n d : Int} {K : Value → Heap → Prop} (H : At h b c) (hi : c[i]? = some (.int .i64 n))
    (hK : ∀ h', At h' b (c.set i (.int .i64 (IntKind.wrap .i64 (n + d)))) → Only [b] h h' → K (.int .i64 (IntKind.wrap .i64 (n + d))) h') :
    CallsH Try.prog 61 [.pointer (some ⟨b, i, none⟩), .int .i64 d] h K := by
  apply F61.spec
  unfold F61.w F61.J0
  rw [add_zero]
  exact ldI_of (by rw [H.rd]; exact hi) (stK_at H (List.getElem?_eq_some_iff.1 hi).1 rfl fun h' h1 h2 _ => hK h' h1 h2)
theorem c48 {h : Heap} {b i : Nat} {c : List Value} {d : Int} {K : Value → Heap → Prop} (H : At h b c) (hi : i < c.length)
    (hK : ∀ h', At h' b (c.set i (.int .u64 d)) → Only [b] h h' → K (.tuple #[]) h') :
    CallsH Try.prog 45 [.pointer (some ⟨b, i, none⟩), .int .u64 d] h K := by
  apply F45.spec
  unfold F45.w F45.J0
  rw [add_zero]
  exact stK_at H hi rfl fun h' h1 h2 _ => hK h' h1 h2
theorem c41 {h : Heap} {b i : Nat} {c : List Value} {n x y : Int} {K : Value → Heap → Prop} (H : At h b c) (hi : c[i]? = some (.int .u64 n))
    (hT : n = x → ∀ h', At h' b (c.set i (.int .u64 y)) → Only [b] h h' → K (.bool true) h') (hF : n ≠ x → K (.bool false) h) :
    CallsH Try.prog 104 [.pointer (some ⟨b, i, none⟩), .int .u64 x, .int .u64 y] h K := by
  apply F104.spec
  unfold F104.w F104.J0
  rw [add_zero]
  refine ldI_of (by rw [H.rd]; exact hi) (bcase_of (fun e => stK_at H (List.getElem?_eq_some_iff.1 hi).1 rfl fun h' h1 h2 _ => hT (by simpa using e) h' h1 h2) fun e => ⟨H.fz _ _, hF (by simpa using e)⟩)

/-- in the row: a touched cell; beside it: none -/
theorem at_in {h : Heap} {m c : Nat} {cs : List Int} {ops fails : Int} {i : Int} {K : Value → Heap → Prop} (H : MemIs h m c cs ops fails) (h0 : 0 ≤ i) (h1 : i < cs.length)
    (hK : ∀ h', MemIs h' m c cs (up ops) fails → Only [m, c] h h' → K (.pointer (some ⟨c, i.toNat, none⟩)) h') :
    CallsH Try.prog 44 [.pointer (some ⟨m, 0, none⟩), .int .i64 i] h K := by
  apply F44.spec
  unfold F44.w F44.J0
  rw [decide_eq_false (by omega : ¬ i < 0)]
  simp only [add_mk, H.head.rd, Nat.zero_add, List.getElem?_cons_zero, ldS_some, bcase_false]
  rw [decide_eq_false (by omega : ¬ i ≥ (Nat.cast cs.length : Int)), bcase_false]
  refine c42 (n := ops) (i := 1) H.head rfl fun h' a1 a2 => ?_
  simp only [ldI_some, List.set_cons_succ, List.set_cons_zero] at a1 ⊢
  simp only [a1.rd, List.getElem?_cons_zero, ldS_some, ptrK_some, add_mk, Nat.zero_add, Nat.mul_one]
  exact ⟨h0, h1, hK h' ⟨a1, H.body.only a2 (by simp [H.ne.symm]), H.ne⟩ (a2.mono (by simp +contextual))⟩
theorem at_out {h : Heap} {m c : Nat} {cs : List Int} {ops fails : Int} {i : Int} {K : Value → Heap → Prop} (H : MemIs h m c cs ops fails) (ho : i < 0 ∨ (cs.length : Int) ≤ i)
    (hK : K (.pointer none) h) :
    CallsH Try.prog 44 [.pointer (some ⟨m, 0, none⟩), .int .i64 i] h K := by
  apply F44.spec
  unfold F44.w F44.J0
  simp only [add_mk, H.head.rd, Nat.zero_add, List.getElem?_cons_zero, ldS_some]
  refine bcase_of (fun _ => hK) fun e => bcase_of (fun _ => hK) fun e' => ?_
  simp at e e'
  omega

theorem load_in {h : Heap} {m c : Nat} {cs : List Int} {ops fails : Int} {i : Int} {K : Value → Heap → Prop} (H : MemIs h m c cs ops fails) (h0 : 0 ≤ i) (h1 : i < cs.length)
    (hK : ∀ h', MemIs h' m c cs (up ops) fails → Only [m, c] h h' → K (.int .u64 (cs.getD i.toNat 0)) h') :
    CallsH Try.prog 21 [.pointer (some ⟨m, 0, none⟩), .int .i64 i] h K := by
  apply F21.spec
  unfold F21.w F21.J0
  refine at_in H h0 h1 fun h' a1 a2 => ?_
  have hi : i.toNat < cs.length := by omega
  simp only [ldP_some, Option.isNone_some, Bool.not_false, bcase_true]
  refine c40 (n := cs.getD i.toNat 0) (by rw [a1.body.rd]; simp [hi]) ?_
  simp only [ldI_some]
  exact hK h' a1 a2
theorem load_out {h : Heap} {m c : Nat} {cs : List Int} {ops fails : Int} {i : Int} {K : Value → Heap → Prop} (H : MemIs h m c cs ops fails) (ho : i < 0 ∨ (cs.length : Int) ≤ i)
    (hK : K (.int .u64 0) h) :
    CallsH Try.prog 21 [.pointer (some ⟨m, 0, none⟩), .int .i64 i] h K := by
  apply F21.spec
  unfold F21.w F21.J0
  refine at_out H ho ?_
  simp only [ldP_some, Option.isNone_none, Bool.not_true, bcase_false]
  exact hK
theorem MemIs.put {h h' : Heap} {m c : Nat} {cs : List Int} {ops fails : Int} (H : MemIs h m c cs ops fails) {i : Nat} {v : Int} (a : At h' c ((cs.map (Value.int .u64)).set i (.int .u64 v))) (O : Only [c] h h') :
    MemIs h' m c (cs.set i v) ops fails :=
  ⟨by rw [List.length_set]; exact H.head.only O (by simp [H.ne]), by rw [List.map_set]; exact a, H.ne⟩
theorem store_in {h : Heap} {m c : Nat} {cs : List Int} {ops fails : Int} {i d : Int} {K : Value → Heap → Prop} (H : MemIs h m c cs ops fails) (h0 : 0 ≤ i) (h1 : i < cs.length)
    (hK : ∀ h', MemIs h' m c (cs.set i.toNat d) (up ops) fails → Only [m, c] h h' → K (.tuple #[]) h') :
    CallsH Try.prog 20 [.pointer (some ⟨m, 0, none⟩), .int .i64 i, .int .u64 d] h K := by
  apply F20.spec
  unfold F20.w F20.J0
  refine at_in H h0 h1 fun h' a1 a2 => ?_
  have hi : i.toNat < cs.length := by omega
  simp only [ldP_some, Option.isNone_some, Bool.not_false, bcase_true]
  exact c48 a1.body (by simpa using hi) fun h'' b1 b2 => ⟨rfl, hK h'' (a1.put b1 b2) (a2.trans b2 (by simp))⟩
theorem store_out {h : Heap} {m c : Nat} {cs : List Int} {ops fails : Int} {i d : Int} {K : Value → Heap → Prop} (H : MemIs h m c cs ops fails) (ho : i < 0 ∨ (cs.length : Int) ≤ i)
    (hK : K (.tuple #[]) h) :
    CallsH Try.prog 20 [.pointer (some ⟨m, 0, none⟩), .int .i64 i, .int .u64 d] h K := by
  apply F20.spec
  unfold F20.w F20.J0
  refine at_out H ho ?_
  simp only [ldP_some, Option.isNone_none, Bool.not_true, bcase_false]
  exact hK
theorem cas_in {h : Heap} {m c : Nat} {cs : List Int} {ops fails : Int} {i x y : Int} {K : Value → Heap → Prop} (H : MemIs h m c cs ops fails) (h0 : 0 ≤ i) (h1 : i < cs.length)
    (hT : cs.getD i.toNat 0 = x → ∀ h', MemIs h' m c (cs.set i.toNat y) (up ops) fails → Only [m, c] h h' → K (.bool true) h')
    (hF : cs.getD i.toNat 0 ≠ x → ∀ h', MemIs h' m c cs (up ops) (up fails) → Only [m, c] h h' → K (.bool false) h') :
    CallsH Try.prog 101 [.pointer (some ⟨m, 0, none⟩), .int .i64 i, .int .u64 x, .int .u64 y] h K := by
  apply F101.spec
  unfold F101.w F101.J0
  refine at_in H h0 h1 fun h' a1 a2 => ?_
  have hi : i.toNat < cs.length := by omega
  simp only [ldP_some, Option.isNone_some, bcase_false]
  refine c41 (n := cs.getD i.toNat 0) a1.body (by simp [hi]) (fun e h'' b1 b2 => ?_) fun e => ?_
  · simp only [ldB_some, Bool.not_true, bcase_false]
    exact hT e h'' (a1.put b1 b2) (a2.trans b2 (by simp))
  · simp only [ldB_some, Bool.not_false, bcase_true, add_mk, Nat.zero_add]
    refine c42 (n := fails) a1.head rfl fun h'' b1 b2 => ?_
    simp only [ldI_some]
    exact hF e h'' ⟨b1, a1.body.only b2 (by simp [H.ne.symm]), H.ne⟩ (a2.trans b2 (by simp))
theorem cas_out {h : Heap} {m c : Nat} {cs : List Int} {ops fails : Int} {i x y : Int} {K : Value → Heap → Prop} (H : MemIs h m c cs ops fails) (ho : i < 0 ∨ (cs.length : Int) ≤ i)
    (hK : K (.bool false) h) :
    CallsH Try.prog 101 [.pointer (some ⟨m, 0, none⟩), .int .i64 i, .int .u64 x, .int .u64 y] h K := by
  apply F101.spec
  unfold F101.w F101.J0
  refine at_out H ho ?_
  simp only [ldP_some, Option.isNone_none, bcase_true]
  exact hK
theorem counted {h : Heap} {b i : Nat} {n : Int} {K : Value → Heap → Prop} (hr : rd h ⟨b, i, none⟩ = some (.int .i64 n)) (hK : K (.int .i64 n) h) :
    CallsH Try.prog 75 [.pointer (some ⟨b, i, none⟩)] h K := by
  apply F75.spec
  unfold F75.w F75.J0
  refine c60 hr ?_
  simp only [ldI_some]
  exact hK
theorem ops_spec {h : Heap} {m c : Nat} {cs : List Int} {ops fails : Int} {K : Value → Heap → Prop} (H : MemIs h m c cs ops fails) (hK : K (.int .i64 ops) h) :
    CallsH Try.prog 64 [.pointer (some ⟨m, 0, none⟩)] h K := by
  apply F64.spec
  unfold F64.w F64.J0
  rw [add_mk]
  refine counted (n := ops) (by rw [H.head.rd]; rfl) ?_
  simp only [ldI_some]
  exact hK
theorem len_spec {h : Heap} {m c : Nat} {cs : List Int} {ops fails : Int} {K : Value → Heap → Prop} (H : MemIs h m c cs ops fails) (hK : K (.int .i64 cs.length) h) :
    CallsH Try.prog 38 [.pointer (some ⟨m, 0, none⟩)] h K := by
  apply F38.spec
  unfold F38.w F38.J0
  rw [add_mk, H.head.rd]
  exact ldS_of rfl hK
/-- how many cells are made for a number -/
def cellsFor (n : Int) : Nat := (min (max n 0) 262144).toNat
theorem cellsFor_of {k : Nat} (h : k ≤ 262144) : cellsFor (k : Int) = k := by
  unfold cellsFor
  rw [Int.max_eq_left (by omega), Int.min_eq_left (by omega), Int.toNat_natCast]
theorem made_ints (n : Nat) : (madeCells #[.int .u64 (0 : Int)] n).toList = (List.replicate n (0 : Int)).map (Value.int .u64) := by
  rw [toList_madeCells_one]; simp
theorem new_spec {h : Heap} {n : Int} {K : Value → Heap → Prop}
    (hK : ∀ m c h', MemIs h' m c (List.replicate (cellsFor n) 0) 0 0 → Only [] h h' → h.size ≤ m → h.size ≤ c → K (.pointer (some ⟨m, 0, none⟩)) h') :
    CallsH Try.prog 12 [.int .i64 n] h K := by
  apply F12.spec
  unfold F12.w F12.J0
  have e : (if (262144 : Int) < (if (0 : Int) > n then (0 : Int) else n) then (262144 : Int) else (if (0 : Int) > n then (0 : Int) else n)) = (cellsFor n : Int) := by
    unfold cellsFor
    split <;> split <;> omega
  have h2 : cellsFor n ≤ 262144 := by unfold cellsFor; omega
  rw [e]
  refine ⟨by omega, by omega, by omega, by omega, ?_⟩
  refine newK_at fun h1 a1 a2 a3 => newK_at fun h2 b1 b2 b3 => ?_
  simp only [Int.toNat_natCast, Nat.mul_one] at a1 b1 ⊢
  rw [made_ints] at a1
  refine hK h1.size h.size h2 ⟨?_, a1.only b2 (by simp), by omega⟩ (a2.trans b2 (by simp)) (by omega) (by omega)
  rw [List.length_replicate]
  exact b1
end Go.Proofs.Ytipckkeaoncjiaa.Ev
