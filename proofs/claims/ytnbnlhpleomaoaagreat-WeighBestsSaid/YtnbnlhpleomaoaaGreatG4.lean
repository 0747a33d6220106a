/- PART 4 OF WHAT THE LAW WeighBests STANDS ON: NodD4, NodG4, NodH4, NodI4, NodJ4, NodK4, StoA4, RecF4, StoB4, StoC4, SemA4, PlyG4, MakB4, MakC4, WgF4, EvO, WghA4, WgF5, WgF6. Conditions: each part names its own. -/
import Derived.Test.YtnbnlhpleomaoaaGreatG3
/- NODES (package nodes): a store as it lies in memory, and what tells of its nodes. Conditions: the store's cells stand (StM). -/
namespace Go.Proofs.YtnbnlhpleomaoaaGreat.Ev
open Go
def ncell : Option Nd → List Value
  | some x => [.bool true, .int .i64 (x.1 : Int), .int .u32 (x.2.1 : Int), .int .u32 (x.2.2 : Int)]
  | none => [.bool false, .int .i64 0, .int .u32 0, .int .u32 0]
theorem ncell_len (o : Option Nd) : (ncell o).length = 4 := by cases o <;> rfl
def nrow : List (Option Nd) → List Value
  | [] => []
  | x :: N => ncell x ++ nrow N
theorem nrow_len : ∀ N, (nrow N).length = N.length * 4
  | [] => rfl
  | x :: N => by simp [nrow, ncell_len, nrow_len N]; omega
theorem nrow_app : ∀ N M, nrow (N ++ M) = nrow N ++ nrow M
  | [], M => rfl
  | x :: N, M => by simp [nrow, nrow_app N M]
theorem nrow_get : ∀ (N : List (Option Nd)) (i : Nat) (x : Option Nd) (k : Nat), N[i]? = some x → k < 4 → (nrow N)[i * 4 + k]? = (ncell x)[k]?
  | [], i, x, k, h, _ => by simp at h
  | y :: N, 0, x, k, h, hk => by
    simp at h
    subst h
    rw [Nat.zero_mul, Nat.zero_add]
    exact List.getElem?_append_left (by rw [ncell_len]; exact hk)
  | y :: N, i + 1, x, k, h, hk => by
    have := nrow_get N i x k (by simpa using h) hk
    unfold nrow
    rw [List.getElem?_append_right (by rw [ncell_len]; omega), ← this]
    congr 1
    rw [ncell_len]
    omega
/-- a cell of a node turned, and all four -/
theorem nrow_set4 : ∀ (N : List (Option Nd)) (i : Nat) (o : Option Nd) (a b c d : Value), i < N.length → ncell o = [a, b, c, d] → ((((nrow N).set (i * 4 + 0) a).set (i * 4 + 1) b).set (i * 4 + 2) c).set (i * 4 + 3) d = nrow (N.set i o)
  | [], i, o, a, b, c, d, h, _ => by simp at h
  | y :: N, 0, o, a, b, c, d, h, e => by
    simp only [nrow, List.set_cons_zero, e]
    have := ncell_len y
    match hy : ncell y, this with
    | [p, q, r, s], _ => simp
  | y :: N, i + 1, o, a, b, c, d, h, e => by
    have ih := nrow_set4 N i o a b c d (by simpa using h) e
    simp only [nrow, List.set_cons_succ]
    rw [← ih]
    have := ncell_len y
    rw [show (i + 1) * 4 + 0 = (ncell y).length + (i * 4 + 0) by omega, show (i + 1) * 4 + 1 = (ncell y).length + (i * 4 + 1) by omega, show (i + 1) * 4 + 2 = (ncell y).length + (i * 4 + 2) by omega, show (i + 1) * 4 + 3 = (ncell y).length + (i * 4 + 3) by omega]
    simp only [List.set_append, Nat.not_lt.2 (Nat.le_add_right _ _), if_false, Nat.add_sub_cancel_left]
/-- nodes, children, levels -/
def isN (N : List (Option Nd)) (a : Nat) : Prop := a < 2 ∨ ∃ x, nd N (a - 2) = some x
def lvl (n : Nat) (N : List (Option Nd)) (a : Nat) : Nat := if a < 2 then n else match nd N (a - 2) with | some x => x.1 | none => 0
def low (N : List (Option Nd)) (a : Nat) : Nat := if a < 2 then a else match nd N (a - 2) with | some x => x.2.1 | none => 0
def high (N : List (Option Nd)) (a : Nat) : Nat := if a < 2 then a else match nd N (a - 2) with | some x => x.2.2 | none => 0
structure NOk (n : Nat) (N : List (Option Nd)) : Prop where
  node : ∀ i x, nd N i = some x → x.1 < n ∧ isN N x.2.1 ∧ isN N x.2.2 ∧ x.2.1 ≠ x.2.2 ∧ x.1 < lvl n N x.2.1 ∧ x.1 < lvl n N x.2.2
  once : ∀ i j x, nd N i = some x → nd N j = some x → i = j
structure SB where
  ob : Nat
  tb : Nat
  m : Nat
  mc : Nat
  sb : Nat
  cac : Nat
  cm : Nat
  cmc : Nat
  p : Option Addr
  c : Nat
  fp : Option Addr
  fc : Nat
/-- the store's blocks, and its table's -/
def SB.bm (B : SB) (s : Nat) : List Nat := [s, B.ob, B.cac, B.cm, B.cmc] ++ OwnB B.p ++ OwnB B.fp
def SB.bt (B : SB) : List Nat := [B.tb, B.m, B.mc, B.sb]
def frow (F : List Nat) : List Value := F.map fun (a : Nat) => Value.int .u32 (a : Int)
def scell (room : Nat) (B : SB) (l fl : Nat) (off : Bool) : List Value := [.int .i64 (room : Int), .pointer (some ⟨B.ob, 0, none⟩), .slice B.p l B.c, .slice B.fp fl B.fc, .pointer (some ⟨B.tb, 0, none⟩), .map (some B.sb), .pointer (some ⟨B.cac, 0, none⟩), .bool off]
/-- lines of the cache that tell only what Q allows -/
def CSound (Q : Int → Int → Prop) (cs : List Int) : Prop := ∀ l, l < 256 → 0 ≤ cs.getD (3 * l) 0 ∧ cs.getD (3 * l) 0 < 18446744073709551616 ∧ cs.getD (3 * l) 0 % 2 = 0 ∧ (cs.getD (3 * l) 0 % 4 = 2 → Q (cs.getD (3 * l + 1) 0) (cs.getD (3 * l + 2) 0))
def CacOk (h : Heap) (B : SB) (Q : Int → Int → Prop) : Prop := ∃ cs ops fails, CW h B.cac B.cm B.cmc 0 256 cs ops fails ∧ CSound Q cs
theorem CacOk.only {S : List Nat} {h h' : Heap} {B : SB} {Q : Int → Int → Prop} (H : CacOk h B Q) (O : Only S h h') (h1 : B.cac ∉ S) (h2 : B.cm ∉ S) (h3 : B.cmc ∉ S) : CacOk h' B Q := by
  obtain ⟨cs, o, f, a, b⟩ := H
  exact ⟨cs, o, f, a.only O h1 h2 h3, b⟩
structure StM (h : Heap) (s n room : Nat) (B : SB) (f g : Nat → Nat) (N : List (Option Nd)) (F : List Nat) (Q : Int → Int → Prop) (off : Bool) : Prop where
  S : At h s (scell room B N.length F.length off)
  O : OrdIs h B.ob n f g
  own : Own h 0 4 B.p N.length B.c (nrow N)
  fre : Win h 0 B.fp F.length B.fc (frow F)
  cac : CacOk h B Q
  n8 : 1 ≤ n ∧ n ≤ 8
  len : N.length ≤ room ∧ room ≤ 32768 ∧ F.length ≤ N.length
  sep : (B.bm s).Nodup
/-- the table that lies beside it -/
structure TabM (h : Heap) (s : Nat) (B : SB) (N : List (Option Nd)) : Prop where
  tab : ∃ T cs mm ops fails, TabIs h B.tb B.m 0 T ∧ MemIs h B.m B.mc cs ops fails ∧ MapM h B.sb .i64 mm ∧ Laid T cs mm N ∧ (∃ k, T = 32 * 2 ^ k) ∧ 2 * cntN N ≤ T ∧ T ≤ 262144
  nd : B.bt.Nodup
  sep : ∀ b ∈ B.bt, b ∉ B.bm s
theorem StM.only {h h' : Heap} {s n room : Nat} {B : SB} {f g : Nat → Nat} {N : List (Option Nd)} {F : List Nat} {Q : Int → Int → Prop} {off : Bool} {L : List Nat} (H : StM h s n room B f g N F Q off) (O : Only L h h') (hL : ∀ b ∈ L, b ∉ B.bm s) : StM h' s n room B f g N F Q off := by
  have d : ∀ b, b ∈ B.bm s → b ∉ L := fun b hb hl => hL b hl hb
  exact ⟨H.S.only O (d _ (by simp [SB.bm])), H.O.only O (d _ (by simp [SB.bm])), H.own.only O fun b hb => d _ (by simp [SB.bm, hb, OwnB]), H.fre.only O fun b hb => d _ (by simp [SB.bm, hb]), H.cac.only O (d _ (by simp [SB.bm])) (d _ (by simp [SB.bm])) (d _ (by simp [SB.bm])), H.n8, H.len, H.sep⟩
theorem TabM.only {h h' : Heap} {s : Nat} {B : SB} {N : List (Option Nd)} {L : List Nat} (H : TabM h s B N) (O : Only L h h') (hL : ∀ b ∈ L, b ∉ B.bt) : TabM h' s B N := by
  have d : ∀ b, b ∈ B.bt → b ∉ L := fun b hb hl => hL b hl hb
  obtain ⟨T, cs, mm, o, f', t1, t2, t3, t4⟩ := H.tab
  exact ⟨⟨T, cs, mm, o, f', t1.only O (d _ (by simp [SB.bt])), t2.only O (d _ (by simp [SB.bt])) (d _ (by simp [SB.bt])), t3.only O (d _ (by simp [SB.bt])), t4⟩, H.nd, H.sep⟩
theorem StM.lt {h : Heap} {s n room : Nat} {B : SB} {f g : Nat → Nat} {N : List (Option Nd)} {F : List Nat} {Q : Int → Int → Prop} {off : Bool} (H : StM h s n room B f g N F Q off) : ∀ b ∈ B.bm s, b < h.size := fun b hb => by
  obtain ⟨cs, o, f, c1, -⟩ := H.cac
  have := c1.lt
  have := H.S.lt
  have := At.lt H.O
  simp only [SB.bm, List.mem_append, List.mem_cons, List.not_mem_nil, or_false] at hb
  rcases hb with (hb | hb) | hb
  · omega
  · exact (H.own.lt b hb).2
  · exact (H.fre.lt b hb).2
theorem TabM.lt {h : Heap} {s : Nat} {B : SB} {N : List (Option Nd)} (H : TabM h s B N) : ∀ b ∈ B.bt, b < h.size := fun b hb => by
  obtain ⟨T, cs, mm, o, f', t1, t2, t3, -⟩ := H.tab
  have := At.lt t1
  have := t2.head.lt
  have := t2.body.lt
  have := t3.lt
  simp only [SB.bt, List.mem_cons, List.not_mem_nil, or_false] at hb
  omega
section
variable {h : Heap} {s n room : Nat} {B : SB} {f g : Nat → Nat} {N : List (Option Nd)} {F : List Nat} {Q : Int → Int → Prop} {off : Bool} {K : Value → Heap → Prop}
theorem vars58 (H : StM h s n room B f g N F Q off) (hK : K (.int .i64 (n : Int)) h) : CallsH Tryz.prog 58 [.pointer (some ⟨s, 0, none⟩)] h K := by
  refine F58.spec _ h K ?_
  unfold F58.w F58.J0
  simp only [add_mk, Nat.zero_add]
  refine ldP_of (by rw [At.rd H.S]; rfl) (ord_len H.O (ldI_of rfl hK))
theorem wrap_sub2 {a : Nat} (h2 : 2 ≤ a) (ha : a < 4294967296) : IntKind.wrap .u32 ((a : Int) - 2) = ((a - 2 : Nat) : Int) := by
  rw [show (a : Int) - 2 = ((a - 2 : Nat) : Int) by omega]
  exact wrap32 (by omega)
/-- the cells of a node -/
theorem StM.cells (H : StM h s n room B f g N F Q off) {i : Nat} {o : Option Nd} (hi : N[i]? = some o) : ∃ b, B.p = some ⟨b, 0, none⟩ ∧ ∀ k, k < 4 → rd h ⟨b, i * 4 + k, none⟩ = (ncell o)[k]? := by
  have hl := (List.getElem?_eq_some_iff.1 hi).1
  have rr : ∀ k, k < 4 → ∃ b, B.p = some ⟨b, 0, none⟩ ∧ rd h ⟨b, i * 4 + k, none⟩ = (ncell o)[k]? := fun k hk => by
    obtain ⟨b, e1, e2⟩ := H.own.rd (j := i * 4 + k) (by rw [nrow_len]; omega)
    exact ⟨b, e1, by rw [e2, nrow_get N _ o k hi hk]⟩
  obtain ⟨b, e1, e2⟩ := rr 0 (by omega)
  refine ⟨b, e1, fun k hk => ?_⟩
  obtain ⟨b', e1', e2'⟩ := rr k hk
  rw [e1] at e1'
  injection e1' with e1'
  injection e1' with e1'
  subst e1'
  exact e2'
theorem at44 (H : StM h s n room B f g N F Q off) {a : Nat} (ha : a < 4294967296)
    (h1 : (∀ x, 2 ≤ a → nd N (a - 2) ≠ some x) → K (.pointer none) h)
    (h2 : ∀ b x, B.p = some ⟨b, 0, none⟩ → 2 ≤ a → nd N (a - 2) = some x → (∀ k, k < 4 → rd h ⟨b, (a - 2) * 4 + k, none⟩ = (ncell (some x))[k]?) → K (.pointer (some ⟨b, (a - 2) * 4, none⟩)) h) :
    CallsH Tryz.prog 44 [.pointer (some ⟨s, 0, none⟩), .int .u32 (a : Int)] h K := by
  refine F44.spec _ _ h K ?_
  unfold F44.w F44.J0
  simp only [add_mk, Nat.zero_add]
  refine bcase_of (fun hb => ?_) fun hb => ?_
  · have hb := of_decide_eq_true hb
    exact h1 fun x h2 => by omega
  have hb := of_decide_eq_false hb
  have rs : rd h ⟨s, 2, none⟩ = some (.slice B.p N.length B.c) := by rw [At.rd H.S]; rfl
  refine ldS_of rs ?_
  have w1 : IntKind.wrap .i64 (a : Int) = (a : Int) := wrap_i64 (by omega) (by omega)
  rw [w1, wrap_i64 (by omega) (by omega), wrap_sub2 (by omega) ha]
  refine bcase_of (fun hc => ?_) fun hc => ?_
  · have hc := of_decide_eq_true hc
    exact h1 fun x h2 => by rw [nd_out (by omega)]; simp
  have hc := of_decide_eq_false hc
  have hi : a - 2 < N.length := by omega
  obtain ⟨o, ho⟩ : ∃ o, N[a - 2]? = some o := ⟨_, List.getElem?_eq_getElem hi⟩
  obtain ⟨b, e1, rb⟩ := H.cells ho
  refine ldS_of rs ?_
  rw [e1, ptrK_some]
  refine ⟨by omega, by omega, ?_⟩
  rw [add_mk, add_mk, show 0 + Int.toNat ((a - 2 : Nat) : Int) * 4 + 0 = (a - 2) * 4 + 0 by omega, rb 0 (by omega)]
  cases o with
  | none =>
    refine ldB_of rfl ?_
    rw [Bool.not_false, bcase_true]
    exact h1 fun x _ => by rw [Ne, nd_some, ho]; simp
  | some x =>
    refine ldB_of rfl ?_
    rw [Bool.not_true, bcase_false]
    refine ldS_of rs ?_
    rw [e1, ptrK_some]
    refine ⟨by omega, by omega, ?_⟩
    rw [add_mk, show 0 + Int.toNat ((a - 2 : Nat) : Int) * 4 = (a - 2) * 4 by omega]
    exact h2 b x e1 (by omega) (nd_some.2 ho) rb
theorem isN_lt (H : StM h s n room B f g N F Q off) {a : Nat} (ha : isN N a) : a < N.length + 2 := by
  rcases ha with h | ⟨x, h⟩
  · omega
  · have := nd_lt h
    omega
theorem is21 (H : StM h s n room B f g N F Q off) {a : Nat} (ha : a < 4294967296) (h1 : isN N a → K (.bool true) h) (h0 : ¬ isN N a → K (.bool false) h) : CallsH Tryz.prog 21 [.pointer (some ⟨s, 0, none⟩), .int .u32 (a : Int)] h K := by
  refine F21.spec _ _ h K ?_
  unfold F21.w F21.J0
  refine bcase_of (fun hb => ?_) fun hb => ?_
  · have hb := of_decide_eq_true hb
    exact h1 (.inl (by omega))
  have hb := of_decide_eq_false hb
  refine at44 H ha (fun e => ldP_of rfl ?_) fun b x e1 h2 hx r => ldP_of rfl ?_
  · refine h0 fun hn => ?_
    rcases hn with h | ⟨x, h⟩
    · omega
    · exact e x (by omega) h
  · exact h1 (.inr ⟨x, hx⟩)
theorem level46 (H : StM h s n room B f g N F Q off) {a : Nat} (ha : isN N a) (hK : K (.int .i64 (lvl n N a : Int)) h) : CallsH Tryz.prog 46 [.pointer (some ⟨s, 0, none⟩), .int .u32 (a : Int)] h K := by
  have hl := H.len
  have ha' := isN_lt H ha
  refine F46.spec _ _ h K ?_
  unfold F46.w F46.J0
  unfold lvl at hK
  refine bcase_of (fun hb => ?_) fun hb => ?_
  · have hb := of_decide_eq_true hb
    rw [if_pos (by omega)] at hK
    exact vars58 H (ldI_of rfl hK)
  have hb := of_decide_eq_false hb
  rw [if_neg (by omega)] at hK
  refine at44 H (by omega) (fun h1 => ?_) fun b x e1 h2 hx r => ldP_of rfl ?_
  · rcases ha with h | ⟨x, h⟩
    · omega
    · exact absurd h (h1 x (by omega))
  rw [show (!(Option.isNone (some (⟨b, (a - 2) * 4, none⟩ : Addr)))) = true from rfl, bcase_true, ptrK_some, add_mk, r 1 (by omega)]
  refine ldI_of rfl ?_
  rw [hx] at hK
  exact hK
theorem one85 {a : Nat} (ha : a < 2) (hK : K (.int .i64 1) h) : CallsH Tryz.prog 85 [.pointer (some ⟨s, 0, none⟩), .int .u32 (a : Int)] h K := by
  refine F85.spec _ _ h K ?_
  unfold F85.w F85.J0
  exact bcase_of (fun _ => hK) fun hb => absurd (of_decide_eq_false hb) (by omega)
theorem and_oneb : ∀ a : Fin 2, bitsI .and .u32 ((a.1 : Nat) : Int) (IntKind.wrap .u32 1) = ((a.1 : Nat) : Int) := by decide +kernel
theorem low68 (H : StM h s n room B f g N F Q off) {a : Nat} (ha : isN N a) (hK : K (.int .u32 (low N a : Int)) h) : CallsH Tryz.prog 68 [.pointer (some ⟨s, 0, none⟩), .int .u32 (a : Int)] h K := by
  have hl := H.len
  have ha' := isN_lt H ha
  refine F68.spec _ _ h K ?_
  unfold F68.w F68.J0
  unfold low at hK
  refine at44 H (by omega) (fun h1 => ldP_of rfl ?_) fun b x e1 h2 hx r => ldP_of rfl ?_
  · have h2 : a < 2 := by
      rcases ha with h | ⟨x, h⟩
      · exact h
      · exact Classical.byContradiction fun hn => h1 x (by omega) h
    rw [if_pos h2] at hK
    rw [show (!(Option.isNone (none : Option Addr))) = false from rfl, bcase_false]
    refine one85 h2 ?_
    refine ldI_of rfl ?_
    have := and_oneb ⟨a, h2⟩
    dsimp only at this
    rw [this]
    exact hK
  · rw [if_neg (by omega), hx] at hK
    rw [show (!(Option.isNone (some (⟨b, (a - 2) * 4, none⟩ : Addr)))) = true from rfl, bcase_true, ptrK_some, add_mk, r 2 (by omega)]
    exact ldI_of rfl hK
theorem high69 (H : StM h s n room B f g N F Q off) {a : Nat} (ha : isN N a) (hK : K (.int .u32 (high N a : Int)) h) : CallsH Tryz.prog 69 [.pointer (some ⟨s, 0, none⟩), .int .u32 (a : Int)] h K := by
  have hl := H.len
  have ha' := isN_lt H ha
  refine F69.spec _ _ h K ?_
  unfold F69.w F69.J0
  unfold high at hK
  refine at44 H (by omega) (fun h1 => ldP_of rfl ?_) fun b x e1 h2 hx r => ldP_of rfl ?_
  · have h2 : a < 2 := by
      rcases ha with h | ⟨x, h⟩
      · exact h
      · exact Classical.byContradiction fun hn => h1 x (by omega) h
    rw [if_pos h2] at hK
    rw [show (!(Option.isNone (none : Option Addr))) = false from rfl, bcase_false]
    refine one85 h2 ?_
    refine ldI_of rfl ?_
    have := and_oneb ⟨a, h2⟩
    dsimp only at this
    rw [this]
    exact hK
  · rw [if_neg (by omega), hx] at hK
    rw [show (!(Option.isNone (some (⟨b, (a - 2) * 4, none⟩ : Addr)))) = true from rfl, bcase_true, ptrK_some, add_mk, r 3 (by omega)]
    exact ldI_of rfl hK
theorem len75 (H : StM h s n room B f g N F Q off) (hF : N.length = cntN N + F.length) (hK : K (.int .i64 (cntN N : Int)) h) : CallsH Tryz.prog 75 [.pointer (some ⟨s, 0, none⟩)] h K := by
  have hl := H.len
  refine F75.spec _ h K ?_
  unfold F75.w F75.J0
  simp only [add_mk, Nat.zero_add]
  refine ldS_of (by rw [At.rd H.S]; rfl) (ldS_of (by rw [At.rd H.S]; rfl) ?_)
  rw [wrap_i64 (by omega) (by omega), show ((N.length : Nat) : Int) - ((F.length : Nat) : Int) = (cntN N : Int) by omega]
  exact hK
end
end Go.Proofs.YtnbnlhpleomaoaaGreat.Ev
/- NODES (package nodes): the handle of a key, if there is one. Conditions: the store stands (StM), its table too (TabM), the key isn't nought. -/
namespace Go.Proofs.YtnbnlhpleomaoaaGreat.Ev
open Go
section
variable {h : Heap} {s n room : Nat} {B : SB} {f g : Nat → Nat} {N : List (Option Nd)} {F : List Nat} {Q : Int → Int → Prop} {off : Bool} {K : Value → Heap → Prop}
theorem has74 (H : StM h s n room B f g N F Q off) (Tm : TabM h s B N) {k : Nat} (hk : k ≠ 0)
    (hY : ∀ h' i x, nd N i = some x → kf x = k → Only [B.m, B.mc] h h' → TabM h' s B N → K (.tuple #[.int .u32 ((i + 2 : Nat) : Int), .bool true]) h')
    (hN : ∀ h', NoKey N k → Only [B.m, B.mc] h h' → TabM h' s B N → K (.tuple #[.int .u32 0, .bool false]) h') :
    CallsH Tryz.prog 74 [.pointer (some ⟨s, 0, none⟩), .int .u64 (k : Int)] h K := by
  obtain ⟨T, cs, mm, ops, fails, t1, t2, t3, L, ⟨q, t5⟩, t6, t7⟩ := Tm.tab
  have hT : 1 ≤ T := by have := Nat.two_pow_pos q; omega
  have nn := Tm.nd
  simp only [SB.bt, List.nodup_cons, List.mem_cons, List.not_mem_nil, or_false, not_or, List.nodup_nil, and_true, not_false_eq_true] at nn
  obtain ⟨s1, s2, s3⟩ := nn
  have sp : s ∉ B.bt := fun hm => Tm.sep s hm (by simp [SB.bm])
  simp only [SB.bt, List.mem_cons, List.not_mem_nil, or_false, not_or] at sp
  refine F74.spec _ _ h K ?_
  unfold F74.w F74.J0
  simp only [add_mk, Nat.zero_add]
  refine ldP_of (by rw [At.rd H.S]; rfl) (slots_spec t1 (ldI_of rfl ?_))
  unfold F74.wk3 F74.Jk3
  have mk : ∀ h' ops', MemIs h' B.m B.mc cs ops' fails → Only [B.m, B.mc] h h' → TabM h' s B N := fun h' ops' M O => 
    ⟨⟨T, cs, mm, ops', fails, t1.only O (by simp; omega), M, t3.only O (by simp; omega), L, ⟨q, t5⟩, t6, t7⟩, Tm.nd, Tm.sep⟩
  have S' : ∀ {h'}, Only [B.m, B.mc] h h' → At h' s (scell room B N.length F.length off) := fun O => H.S.only O (by simp; omega)
  have main : ∀ (d i : Nat) (h' : Heap) (ops' : Int), i + d = T → Seen 0 T cs (k : Int) i → MemIs h' B.m B.mc cs ops' fails → Only [B.m, B.mc] h h' → F74.wL3 (d + 1) ⟨s, 0, none⟩ (k : Int) (T : Int) (T : Int) (i : Int) h' K := by
    intro d
    induction d with
    | zero =>
      intro i h' ops' hd S M O
      unfold F74.wL3 F74.JL3
      rw [decide_eq_false (by omega), bcase_false]
      refine hN h' (fun i0 x hx e => ?_) O (mk h' ops' M O)
      obtain ⟨j, hj, ej⟩ := L.all i0 x hx
      obtain ⟨d', hd', ed⟩ := path_surj (key := (k : Int)) hj
      have := (S d' (by omega)).2
      rw [ed, ej, e] at this
      exact this rfl
    | succ d ih =>
      intro i h' ops' hd S M O
      unfold F74.wL3 F74.JL3
      rw [decide_eq_true (by omega), bcase_true]
      refine home_spec (by omega) (by omega) (ldI_of rfl ⟨by omega, ?_⟩)
      simp only [add_mk, Nat.zero_add]
      refine ldP_of (by rw [At.rd (S' O)]; rfl) ?_
      have hh := home_lt (k : Int) (n := T) (by omega)
      have ep : Int.tmod (IntKind.wrap .i64 ((home (k : Int) T : Int) + (i : Int))) (T : Int) = ((path T (k : Int) i : Nat) : Int) := by
        unfold path
        generalize home (k : Int) T = y at hh
        rw [wrap_i64 (by omega) (by omega), show (y : Int) + (i : Int) = ((y + i : Nat) : Int) by omega, Int.tmod_eq_emod_of_nonneg (by omega)]
        rfl
      rw [ep]
      have hp : path T (k : Int) i < T := path_lt (by omega)
      refine at_spec (t1.only O (by simp; omega)) M (by omega) (by omega) (by have := L.len; omega) hp fun h2 M2 O2 => ldI_of rfl ?_
      have O' : Only [B.m, B.mc] h h2 := O.trans O2 (by intro b hb _; exact hb)
      refine bcase_of (fun hb => ?_) fun hb => ?_
      · have hb : cell 0 cs (path T (k : Int) i) = (k : Int) := by simpa using hb
        refine ⟨_, by rw [At.rd (S' O')]; rfl, ?_⟩
        rcases L.cells _ hp with h0 | ⟨i0, x, c1, c2, c3⟩
        · omega
        refine look_map (m := mm) (t3.only O' (by simp; omega)) (fun hn => by rw [hn] at c3; cases c3) fun j v hv => ?_
        rw [c3] at hv
        injection hv with hv
        subst hv
        exact ldI_of rfl (hY h2 i0 x c1 (by omega) O' (mk h2 _ M2 O'))
      · have hb : cell 0 cs (path T (k : Int) i) ≠ (k : Int) := by simpa using hb
        refine bcase_of (fun hz => ?_) fun hz => ?_
        · have hz : cell 0 cs (path T (k : Int) i) = 0 := by simpa using hz
          refine hN h2 (fun i0 x hx e => ?_) O' (mk h2 _ M2 O')
          obtain ⟨j, hj, ej⟩ := L.all i0 x hx
          exact L.inv.absent (by omega) (by omega) S hz j hj (by rw [ej, e])
        · have hz : cell 0 cs (path T (k : Int) i) ≠ 0 := by simpa using hz
          rw [show IntKind.wrap .i64 ((i : Int) + 1) = ((i + 1 : Nat) : Int) by rw [wrap_i64 (by omega) (by omega)]; omega]
          refine ih (i + 1) h2 _ (by omega) (fun j hj => ?_) M2 O'
          by_cases e : j = i
          · subst e; exact ⟨hz, hb⟩
          · exact S j (by omega)
  exact ⟨_, main T 0 h ops (by omega) (fun j hj => by omega) t2 (Only.refl _ _)⟩
end
end Go.Proofs.YtnbnlhpleomaoaaGreat.Ev
/- NODES (package nodes): a handle for one node more. Conditions: the store's cells stand (StM). -/
namespace Go.Proofs.YtnbnlhpleomaoaaGreat.Ev
open Go
theorem mid_nodup {A P P' C : List Nat} (H : (A ++ P ++ C).Nodup) (hp : P'.Nodup) (hx : ∀ x ∈ P', x ∉ A ∧ x ∉ C) : (A ++ P' ++ C).Nodup := by
  simp only [List.nodup_append, List.mem_append, ne_eq] at H ⊢
  obtain ⟨⟨h1, -, -⟩, h3, h4⟩ := H
  exact ⟨⟨h1, hp, fun a ha b hb e => (hx b hb).1 (e ▸ ha)⟩, h3, fun a ha b hb e => ha.elim (fun h => h4 a (.inl h) b hb e) fun h => (hx a h).2 (e ▸ hb)⟩
theorem own_nodup (p : Option Addr) : (OwnB p).Nodup := by cases p <;> simp [OwnB]
theorem SB.grow {B : SB} {s : Nat} {h : Heap} {p' : Option Addr} {c' : Nat} (H : (B.bm s).Nodup) (hlt : ∀ b ∈ B.bm s, b < h.size) (hp : ∀ b ∈ OwnB p', b ∈ OwnB B.p ∨ h.size ≤ b) :
    (SB.bm { B with p := p', c := c' } s).Nodup ∧ ∀ b ∈ SB.bm { B with p := p', c := c' } s, b ∈ B.bm s ∨ h.size ≤ b := by
  refine ⟨mid_nodup H (own_nodup p') fun x hx => ?_, fun b hb => ?_⟩
  · rcases hp x hx with h1 | h1
    · unfold SB.bm at H
      simp only [List.nodup_append, List.mem_append, ne_eq] at H
      obtain ⟨⟨_, _, h2⟩, _, h4⟩ := H
      exact ⟨fun hA => h2 x hA x h1 rfl, fun hC => h4 x (.inr h1) x hC rfl⟩
    · refine ⟨fun hA => ?_, fun hC => ?_⟩
      · have := hlt x (by simp only [SB.bm, List.mem_append]; exact .inl (.inl hA))
        omega
      · have := hlt x (by simp only [SB.bm, List.mem_append]; exact .inr hC)
        omega
  · simp only [SB.bm, List.mem_append] at hb ⊢
    rcases hb with (hb | hb) | hb
    · exact .inl (.inl (.inl hb))
    · rcases hp b hb with h1 | h1
      · exact .inl (.inl (.inr h1))
      · exact .inr h1
    · exact .inl (.inr hb)
theorem keep_ptr (p : Option Addr) (c : Nat) : (if c = 0 then p else Option.map (fun a => Addr.add a (0 * 1)) p) = p := by
  split
  · rfl
  · cases p with
    | none => rfl
    | some a => simp [add_zero]
/-- how a handle is had -/
def HRel (N : List (Option Nd)) (F : List Nat) (N' : List (Option Nd)) (F' : List Nat) (a : Nat) : Prop := (F = [] ∧ N' = N ++ [none] ∧ F' = [] ∧ a = N.length + 2) ∨ (F = F' ++ [a] ∧ N' = N)
section
variable {h : Heap} {s n room : Nat} {B : SB} {f g : Nat → Nat} {N M : List (Option Nd)} {F : List Nat} {Q : Int → Int → Prop} {off : Bool} {K : Value → Heap → Prop}
set_option maxRecDepth 100000 in
theorem handle77 (H : StM h s n room B f g N F Q off) (hroom : F = [] → N.length < room)
    (hK : ∀ h' p' c' N' F' a, HRel N F N' F' a → StM h' s n room { B with p := p', c := c' } f g N' F' Q off → Only (s :: OwnB B.p) h h' → (∀ b ∈ OwnB p', b ∈ OwnB B.p ∨ h.size ≤ b) → K (.int .u32 (a : Int)) h') :
    CallsH Tryz.prog 77 [.pointer (some ⟨s, 0, none⟩)] h K := by
  have hl := H.len
  have hsz : s < h.size := H.S.lt
  have hsep := H.sep
  have hlt := H.lt
  have hin : s ∉ OwnB B.p ∧ s ∉ OwnB B.fp ∧ s ∉ [B.ob, B.cac, B.cm, B.cmc] := by
    unfold SB.bm at hsep
    simp only [List.cons_append, List.nodup_cons, List.mem_cons, List.mem_append, not_or, List.nil_append] at hsep
    simp only [List.mem_cons, List.not_mem_nil, or_false, not_or]
    exact ⟨hsep.1.2.2.2.2.1, hsep.1.2.2.2.2.2, hsep.1.1, hsep.1.2.1, hsep.1.2.2.1, hsep.1.2.2.2.1⟩
  refine F77.spec _ h K ?_
  unfold F77.w F77.J0
  simp only [add_mk, Nat.zero_add]
  have rf : rd h ⟨s, 3, none⟩ = some (.slice B.fp F.length B.fc) := by rw [At.rd H.S]; rfl
  refine ldS_of rf ?_
  rcases List.eq_nil_or_concat F with e | ⟨F', a, e⟩
  · subst e
    rw [decide_eq_false (by simp), bcase_false]
    have hr := hroom rfl
    refine ldS_of (by rw [At.rd H.S]; rfl) ?_
    refine newK_at fun h1 A1 O1 z1 => ?_
    have As := H.S.only O1 (by simp)
    have Ws := H.own.only O1 (by simp)
    refine own_app (new := ncell none) Ws A1 rfl rfl (by omega) (by simp [ncell, Value.oneCell']) (by omega) fun p' c' h2 W2 O2 hb2 => ?_
    have As2 := As.only O2 hin.1
    have hs' : s ∉ OwnB p' := fun hm => by
      rcases hb2 s hm with h | h
      · exact hin.1 h
      · omega
    refine stK_at As2 (by simp [scell]) rfl fun h3 A3 O3 _ => ?_
    replace A3 : At h3 s (scell room { B with p := p', c := c' } (N.length + 1) 0 off) := A3
    refine ldS_of (by rw [At.rd A3]; rfl) ?_
    rw [show IntKind.wrap .u32 (IntKind.wrap .i64 (IntKind.wrap .i64 (((N.length + 1 : Nat) : Int) - 1) + 2)) = ((N.length + 2 : Nat) : Int) by
      have w1 : IntKind.wrap .i64 (((N.length + 1 : Nat) : Int) - 1) = ((N.length + 1 : Nat) : Int) - 1 := wrap_i64 (by omega) (by omega)
      rw [w1, wrap_i64 (by omega) (by omega), show ((N.length + 1 : Nat) : Int) - 1 + 2 = ((N.length + 2 : Nat) : Int) by omega]
      exact wrap32 (by omega)]
    have OO : Only (s :: OwnB B.p) h h3 := (((Only.refl (s :: OwnB B.p) h).trans O1 (by simp)).trans O2 (by intro b hb _; simp [hb])).trans O3 (by intro b hb _; simp at hb; simp [hb])
    have hb3 : ∀ b ∈ OwnB p', b ∈ OwnB B.p ∨ h.size ≤ b := fun b hb => by
      rcases hb2 b hb with h | h
      · exact .inl h
      · exact .inr (by omega)
    obtain ⟨g1, g2⟩ := SB.grow (c' := c') hsep hlt hb3
    have dis : ∀ b, b ∈ [B.ob, B.cac, B.cm, B.cmc] ++ OwnB B.fp → b ∉ s :: OwnB B.p := fun b hb hm => by
      unfold SB.bm at hsep
      simp only [List.nodup_append, List.mem_append, ne_eq] at hsep
      obtain ⟨⟨h1, _, h2⟩, _, h4⟩ := hsep
      rcases List.mem_append.1 hb with hb | hb
      · rcases List.mem_cons.1 hm with e | hm
        · exact hin.2.2 (e ▸ hb)
        · exact h2 b (by simp only [List.mem_cons] at hb ⊢; exact .inr hb) b hm rfl
      · rcases List.mem_cons.1 hm with e | hm
        · exact hin.2.1 (e ▸ hb)
        · exact h4 b (.inr hm) b hb rfl
    refine hK h3 p' c' (N ++ [none]) [] _ (.inl ⟨rfl, rfl, rfl, rfl⟩) ⟨by rw [List.length_append]; exact A3, H.O.only OO (dis _ (by simp)), ?_, H.fre.only OO fun b hb => dis _ (by simp [hb]), H.cac.only OO (dis _ (by simp)) (dis _ (by simp)) (dis _ (by simp)), H.n8, by rw [List.length_append]; exact ⟨hr, hl.2.1, by simp⟩, g1⟩ OO hb3
    rw [nrow_app, List.length_append]
    exact W2.only O3 fun b hb hm => hs' (by simp at hm; subst hm; rw [hb]; simp [OwnB])
  · rw [List.concat_eq_append] at e
    subst e
    rw [List.length_append] at rf
    rw [List.length_append, decide_eq_true (by simp), bcase_true]
    refine ldS_of rf ?_
    have fr := H.fre
    have hfl : (frow (F' ++ [a])).length = F'.length + 1 := by simp [frow]
    obtain ⟨ad, e1, e2⟩ := fr.rd (j := F'.length) (by omega)
    rw [e1, ptrK_some]
    have w1 : IntKind.wrap .i64 (((F'.length + [a].length : Nat) : Int) - 1) = (F'.length : Int) := by
      have hcap := fr.cap
      have hF : F'.length < 9223372036854775807 := by
        have := hl.2.2
        rw [List.length_append] at this
        omega
      rw [wrap_i64 (by rw [List.length_singleton]; omega) (by rw [List.length_singleton]; omega)]
      simp
    rw [w1]
    refine ⟨by omega, by rw [List.length_singleton]; omega, ?_⟩
    rw [Nat.mul_one, Int.toNat_natCast, e2]
    refine ldI_of (by simp [frow]; rfl) ?_
    refine ldS_of rf ⟨by omega, ?_, ?_⟩
    · have := fr.cap
      simp at this
      omega
    · rw [e1, keep_ptr, Nat.sub_zero, Nat.sub_zero]
      refine stK_at H.S (by simp [scell]) rfl fun h3 A3 O3 _ => ?_
      have dis : ∀ b, b ∈ [B.ob, B.cac, B.cm, B.cmc] ++ OwnB B.p ++ OwnB B.fp → b ∉ [s] := fun b hb hm => by
        simp only [List.mem_singleton] at hm
        subst hm
        rcases List.mem_append.1 hb with hb | hb
        · rcases List.mem_append.1 hb with hb | hb
          · exact hin.2.2 hb
          · exact hin.1 hb
        · exact hin.2.1 hb
      refine hK h3 B.p B.c N F' a (.inr ⟨rfl, rfl⟩) ⟨?_, H.O.only O3 (dis _ (by simp)), H.own.only O3 fun b hb => dis _ (by simp [hb, OwnB]), ?_, H.cac.only O3 (dis _ (by simp)) (dis _ (by simp)) (dis _ (by simp)), H.n8, ⟨hl.1, hl.2.1, by have := hl.2.2; rw [List.length_append] at this; omega⟩, hsep⟩ (O3.mono (by simp)) fun b hb => .inl hb
      · rw [← e1] at A3
        exact A3
      · have pp := fr
        rw [show frow (F' ++ [a]) = frow F' ++ [.int .u32 (a : Int)] by simp [frow], List.length_append] at pp
        have pq := pp.pop
        rw [keep_ptr] at pq
        exact pq.only O3 fun b hb => dis _ (by simp [hb])
end
end Go.Proofs.YtnbnlhpleomaoaaGreat.Ev
/- NODES (package nodes): a table of so many slots with all nodes but some laid anew. Conditions: the store's cells stand (StM), no key twice. -/
namespace Go.Proofs.YtnbnlhpleomaoaaGreat.Ev
open Go
theorem info116 : (Tryz.prog.info? 116).map (·.size) = some 0 := by kernel_rfl
theorem store116 {a : Addr} {h : Heap} {K : Heap → Prop} (hK : K h) : storeE Tryz.prog 116 (some a) (.agg #[]) h K := by
  unfold storeE
  have e := info116
  cases hi : Tryz.prog.info? 116 with
  | none => rw [hi] at e; cases e
  | some ti =>
    rw [hi] at e
    have e : ti.size = 0 := by simpa using e
    have e2 : Nat.beq (Value.agg #[]).cells.size ti.size = true := by rw [e]; rfl
    dsimp only
    rw [e2]
    exact hK
theorem newK_map4 {h : Heap} {k : IntKind} {K : Nat → Heap → Prop} (hK : ∀ h', MapM h' h.size k [] → Only [] h h' → h'.size = h.size + 1 → K h.size h') : newK h (.map #[] 0) K :=
  hK _ (MapM.empty (by unfold mp; simp)) (Only.push_map h _ _) (by simp)
theorem Ints.only' {S : List Nat} {h h' : Heap} {k : IntKind} {p : Option Addr} {zs : List Int} (H : Ints h k p zs) (O : Only S h h') (hS : ∀ a, p = some a → a.block ∉ S) : Ints h' k p zs := by
  intro i hi
  obtain ⟨a, e, hr⟩ := H i hi
  refine ⟨a, e, ?_⟩
  rw [← hr]
  have hab : (a.add i).block = a.block := by
    unfold Addr.add
    split <;> rfl
  have hb : (a.add i).block < h.size := by
    apply Classical.byContradiction
    intro hn
    have : h[(a.add i).block]? = none := Array.getElem?_eq_none (by omega)
    simp [rd, this] at hr
  unfold rd
  rw [O.same _ hb (by rw [hab]; exact hS a e)]
/-- nodes but some -/
def era (bl : List Nat) (N : List (Option Nd)) : List (Option Nd) := N.mapIdx fun i o => if i + 2 ∈ bl then none else o
theorem era_get {bl : List Nat} {N : List (Option Nd)} {i : Nat} {o : Option Nd} (h : N[i]? = some o) : (era bl N)[i]? = some (if i + 2 ∈ bl then none else o) := by
  unfold era
  rw [List.getElem?_mapIdx, h]
  rfl
theorem era_len {bl : List Nat} {N : List (Option Nd)} : (era bl N).length = N.length := by simp [era]
theorem era_nil (N : List (Option Nd)) : era [] N = N := by
  apply List.ext_getElem?
  intro i
  unfold era
  rw [List.getElem?_mapIdx]
  cases N[i]? <;> simp
theorem take_succ' {E : List (Option Nd)} {i : Nat} {x : Option Nd} (h : E[i]? = some x) : E.take (i + 1) = E.take i ++ [x] := by
  rw [List.take_add_one, h]
  rfl
theorem nd_take {E : List (Option Nd)} {i k : Nat} {x : Nd} (h : nd (E.take i) k = some x) : nd E k = some x ∧ k < i := by
  have hl := nd_lt h
  rw [List.length_take] at hl
  have := nd_some.1 h
  rw [List.getElem?_take_of_lt (by omega)] at this
  exact ⟨nd_some.2 this, by omega⟩
def SB.tabs (B : SB) (tb m mc sb : Nat) : SB := { B with tb := tb, m := m, mc := mc, sb := sb }
/-- the map of what is left out -/
def OutM (mo : List (Int × Value)) (bl : List Nat) : Prop := ∀ k : Nat, (k ∈ bl → mo.lookup (k : Int) = some (.agg #[])) ∧ (k ∉ bl → mo.lookup (k : Int) = none)
/-- all of a store's cells but its own -/
structure StR (h : Heap) (s n room : Nat) (B : SB) (f g : Nat → Nat) (N : List (Option Nd)) (F : List Nat) (Q : Int → Int → Prop) : Prop where
  O : OrdIs h B.ob n f g
  own : Own h 0 4 B.p N.length B.c (nrow N)
  fre : Win h 0 B.fp F.length B.fc (frow F)
  cac : CacOk h B Q
  n8 : 1 ≤ n ∧ n ≤ 8
  len : N.length ≤ room ∧ room ≤ 32768 ∧ F.length ≤ N.length
  sep : (B.bm s).Nodup
theorem StM.r {h : Heap} {s n room : Nat} {B : SB} {f g : Nat → Nat} {N : List (Option Nd)} {F : List Nat} {Q : Int → Int → Prop} {off : Bool} (H : StM h s n room B f g N F Q off) : StR h s n room B f g N F Q := ⟨H.O, H.own, H.fre, H.cac, H.n8, H.len, H.sep⟩
def gcell (room : Nat) (B : SB) (l fl : Nat) (off : Bool) (v4 v5 : Value) : List Value := [.int .i64 (room : Int), .pointer (some ⟨B.ob, 0, none⟩), .slice B.p l B.c, .slice B.fp fl B.fc, v4, v5, .pointer (some ⟨B.cac, 0, none⟩), .bool off]
theorem StR.lt {h : Heap} {s n room : Nat} {B : SB} {f g : Nat → Nat} {N : List (Option Nd)} {F : List Nat} {Q : Int → Int → Prop} (H : StR h s n room B f g N F Q) (hs : s < h.size) : ∀ b ∈ B.bm s, b < h.size := fun b hb => by
  obtain ⟨cs, o, f, c1, -⟩ := H.cac
  have := c1.lt
  have := At.lt H.O
  simp only [SB.bm, List.mem_append, List.mem_cons, List.not_mem_nil, or_false] at hb
  rcases hb with (hb | hb) | hb
  · omega
  · exact (H.own.lt b hb).2
  · exact (H.fre.lt b hb).2
set_option maxRecDepth 100000 in
theorem grows33 {h : Heap} {s n room : Nat} {B : SB} {f g : Nat → Nat} {N : List (Option Nd)} {F : List Nat} {Q : Int → Int → Prop} {off : Bool} {K : Value → Heap → Prop} {T bc : Nat} {bp : Option Addr} {bl : List Nat} {v4 v5 : Value} (HS : At h s (gcell room B N.length F.length off v4 v5)) (H : StR h s n room B f g N F Q)
    (hbl : Ints h .u32 bp (bl.map fun (k : Nat) => (k : Int))) (hbs : ∀ a, bp = some a → a.block ≠ s) (hbb : bl.length ≤ 32768)
    (hok : ∀ i x, nd (era bl N) i = some x → NdOk x) (honce : ∀ i j x, nd (era bl N) i = some x → nd (era bl N) j = some x → i = j) (hT1 : ∃ k, T = 32 * 2 ^ k) (hT : 2 * cntN (era bl N) ≤ T) (hT2 : T ≤ 262144)
    (hK : ∀ tb m mc sb h', StM h' s n room (B.tabs tb m mc sb) f g N F Q off → TabM h' s (B.tabs tb m mc sb) (era bl N) → (∃ cs mm ops fails, TabIs h' tb m 0 T ∧ MemIs h' m mc cs ops fails ∧ MapM h' sb .i64 mm ∧ Laid T cs mm (era bl N)) → h.size ≤ tb → h.size ≤ m → h.size ≤ mc → h.size ≤ sb → Only [s] h h' → K (.tuple #[]) h') :
    CallsH Tryz.prog 33 [.pointer (some ⟨s, 0, none⟩), .int .i64 (T : Int), .slice bp bl.length bc] h K := by
  have hT0 : 1 ≤ T := by
    obtain ⟨k, e⟩ := hT1
    have := Nat.two_pow_pos k
    omega
  have hsep := H.sep
  have hlen := H.len
  have hin : s ∉ OwnB B.p ∧ s ∉ OwnB B.fp ∧ s ∉ [B.ob, B.cac, B.cm, B.cmc] := by
    unfold SB.bm at hsep
    simp only [List.cons_append, List.nodup_cons, List.mem_cons, List.mem_append, not_or, List.nil_append] at hsep
    simp only [List.mem_cons, List.not_mem_nil, or_false, not_or]
    exact ⟨hsep.1.2.2.2.2.1, hsep.1.2.2.2.2.2, hsep.1.1, hsep.1.2.1, hsep.1.2.2.1, hsep.1.2.2.2.1⟩
  have dis : ∀ b, b ∈ [B.ob, B.cac, B.cm, B.cmc] ++ OwnB B.p ++ OwnB B.fp → b ∉ [s] := fun b hb hm => by
    simp only [List.mem_singleton] at hm
    subst hm
    rcases List.mem_append.1 hb with hb | hb
    · rcases List.mem_append.1 hb with hb | hb
      · exact hin.2.2 hb
      · exact hin.1 hb
    · exact hin.2.1 hb
  have W := H.own
  have hs := hin.1
  refine F33.spec _ _ _ _ _ h K ?_
  unfold F33.w F33.J0
  simp only [add_mk, Nat.zero_add]
  have hsz := HS.lt
  refine new_spec fun m mc h1 M1 O1 g1 g2 => ldP_of rfl ?_
  rw [cellsFor_of hT2] at M1
  have lm : m < h1.size := M1.head.lt
  have lmc : mc < h1.size := M1.body.lt
  have hmn := M1.ne
  refine tabnew_spec (base := 0) M1 hT0 (by simp) (by simp; omega) fun tb h2' T2 O2 g3 => ⟨_, _, rfl, ?_⟩
  have lt : tb < h2'.size := At.lt T2
  have A2 := (HS.only O1 (by simp)).only O2 (by simp)
  have M2 := M1.only O2 (by simp) (by simp)
  refine stK_at A2 (by simp [gcell]) rfl fun h3 A3 O3 z3 => ?_
  have T3 := T2.only O3 (by simp; omega)
  have M3 := M2.only O3 (by simp; omega) (by simp; omega)
  refine newK_map4 (k := .i64) fun h4 Mp4 O4 z4 => ?_
  have A4 := A3.only O4 (by simp)
  refine stK_at A4 (by simp [gcell]) rfl fun h5 A5 O5 z5 => ?_
  have Mp5 := Mp4.only O5 (by simp; omega)
  refine newK_map4 (k := .u32) fun h6 Mq6 O6 z6 => ?_
  have O16 : Only [s] h h6 := ((((((Only.refl [s] h).trans O1 (by simp)).trans O2 (by simp)).trans O3 (by intro b hb _; exact hb)).trans O4 (by simp)).trans O5 (by intro b hb _; exact hb)).trans O6 (by simp)
  replace A5 : At h5 s (scell room (B.tabs tb m mc h3.size) N.length F.length off) := A5
  have A6 := A5.only O6 (by simp)
  have hp : ∀ b, B.p = some ⟨b, 0, none⟩ → b < h.size := fun b e => (W.lt b (by rw [e]; simp [OwnB])).2
  have hps : ∀ b, B.p = some ⟨b, 0, none⟩ → b ≠ s := fun b e e2 => hs (by rw [e, e2]; simp [OwnB])
  have main : ∀ (d i : Nat) (h' : Heap) (cs : List Int) (mm mo : List (Int × Value)) (ops fails : Int), i + d = N.length → At h' s (scell room (B.tabs tb m mc h3.size) N.length F.length off) → TabIs h' tb m 0 T → MemIs h' m mc cs ops fails → MapM h' h3.size .i64 mm → Laid T cs mm ((era bl N).take i) →
      MapM h' h5.size .u32 mo → OutM mo bl → Only [s] h h' → F33.wL9 (d + 1) ⟨s, 0, none⟩ (some h5.size) B.p N.length B.c (N.length : Int) (i : Int) h' K := by
    intro d
    induction d with
    | zero =>
      intro i h' cs mm mo ops fails hd A T' M Mp L Mq Om O
      unfold F33.wL9 F33.JL9
      rw [decide_eq_false (by omega), bcase_false]
      rw [List.take_of_length_le (by rw [era_len]; omega)] at L
      refine hK tb m mc h3.size h' ⟨A, H.O.only O (dis _ (by simp)), H.own.only O fun b hb => dis _ (by simp [hb, OwnB]), H.fre.only O fun b hb => dis _ (by simp [hb]), H.cac.only O (dis _ (by simp)) (dis _ (by simp)) (dis _ (by simp)), H.n8, H.len, H.sep⟩
        ⟨⟨T, cs, mm, ops, fails, T', M, Mp, L, hT1, hT, hT2⟩, ?_, ?_⟩ ⟨cs, mm, ops, fails, T', M, Mp, L⟩ (by omega) g1 g2 (by omega) O
      · simp [SB.bt, SB.tabs]
        omega
      · intro b hb hm
        have := H.lt HS.lt b hm
        simp [SB.bt, SB.tabs] at hb
        omega
    | succ d ih =>
      intro i h' cs mm mo ops fails hd A T' M Mp L Mq Om O
      have hi : i < N.length := by omega
      obtain ⟨o, ho⟩ : ∃ o, N[i]? = some o := ⟨_, List.getElem?_eq_getElem hi⟩
      have he := era_get (bl := bl) ho
      have W' : Own h' 0 4 B.p N.length B.c (nrow N) := W.only O fun b hb => dis _ (by simp [hb, OwnB])
      obtain ⟨b, eb, rr⟩ : ∃ b, B.p = some ⟨b, 0, none⟩ ∧ ∀ k, k < 4 → rd h' ⟨b, i * 4 + k, none⟩ = (ncell o)[k]? := by
        obtain ⟨b, eb, r0⟩ := W'.rd (j := i * 4 + 0) (by rw [nrow_len]; omega)
        refine ⟨b, eb, fun k hk => ?_⟩
        obtain ⟨b', e1', e2'⟩ := W'.rd (j := i * 4 + k) (by rw [nrow_len]; omega)
        rw [eb] at e1'
        injection e1' with e1'
        injection e1' with e1'
        subst e1'
        rw [e2', nrow_get N i o k ho hk]
      have hb := hp b eb
      have hbs := hps b eb
      have hw : IntKind.wrap .u32 (IntKind.wrap .i64 ((i : Int) + 2)) = ((i + 2 : Nat) : Int) := by
        rw [wrap_i64 (by omega) (by omega), show (i : Int) + 2 = ((i + 2 : Nat) : Int) by omega]
        exact wrap32 (by omega)
      have nx : ∀ (k7 : Heap) (cs' : List Int) (mm' : List (Int × Value)) (ops' fails' : Int), At k7 s (scell room (B.tabs tb m mc h3.size) N.length F.length off) → TabIs k7 tb m 0 T → MemIs k7 m mc cs' ops' fails' → MapM k7 h3.size .i64 mm' → Laid T cs' mm' ((era bl N).take (i + 1)) → MapM k7 h5.size .u32 mo → Only [s] h k7 →
          F33.wL9 (d + 1) ⟨s, 0, none⟩ (some h5.size) B.p N.length B.c (N.length : Int) (IntKind.wrap .i64 ((i : Int) + 1)) k7 K := fun k7 cs' mm' ops' fails' A8 T8 M8 Mp8 L8 Mq8 O8 => by
        rw [show IntKind.wrap .i64 ((i : Int) + 1) = ((i + 1 : Nat) : Int) by rw [wrap_i64 (by omega) (by omega)]; omega]
        exact ih (i + 1) k7 cs' mm' mo ops' fails' (by omega) A8 T8 M8 Mp8 L8 Mq8 Om O8
      have skip : (if i + 2 ∈ bl then none else o) = none → ∀ k6, Only [] h' k6 → F33.wL9 (d + 1) ⟨s, 0, none⟩ (some h5.size) B.p N.length B.c (N.length : Int) (IntKind.wrap .i64 ((i : Int) + 1)) k6 K := fun e k6 P16 => by
        rw [e] at he
        refine nx k6 cs mm ops fails (A.only P16 (by simp)) (T'.only P16 (by simp)) (M.only P16 (by simp) (by simp)) (Mp.only P16 (by simp)) ?_ (Mq.only P16 (by simp)) (O.trans P16 (by simp))
        refine L.congr (fun k => ?_) (by rw [take_succ' he, cnt_app]; rfl)
        rw [take_succ' he, nd_app]
        split
        · next hh => rw [nd_out (by omega)]
        · rfl
      unfold F33.wL9 F33.JL9
      rw [decide_eq_true (by omega), bcase_true, eb, ptrK_some]
      refine ⟨by omega, by omega, ?_⟩
      rw [← eb]
      simp only [add_mk, Nat.zero_add]
      rw [show Int.toNat (i : Int) * 4 = i * 4 by omega, hw]
      obtain ⟨tv, lv, av, bv, ec⟩ : ∃ tv lv av bv, ncell o = [.bool tv, .int .i64 lv, .int .u32 av, .int .u32 bv] := by
        cases o with
        | none => exact ⟨_, _, _, _, rfl⟩
        | some x => exact ⟨_, _, _, _, rfl⟩
      rw [ec] at rr
      refine ldB_of (by rw [rr 0 (by omega)]; rfl) (ldI_of (by rw [rr 1 (by omega)]; rfl) (ldI_of (by rw [rr 2 (by omega)]; rfl) (ldI_of (by rw [rr 3 (by omega)]; rfl) ?_)))
      refine newK_at fun k1 B1 P1 y1 => ?_
      refine stK_at B1 (by simp) rfl fun k2 B2 P2 y2 => stK_at B2 (by simp) rfl fun k3 B3 P3 y3 => stK_at B3 (by simp) rfl fun k4 B4 P4 y4 => stK_at B4 (by simp) rfl fun k5 B5 P5 y5 => ?_
      replace B5 : At k5 h'.size [.bool tv, .int .i64 lv, .int .u32 av, .int .u32 bv] := B5
      have P15 : Only [] h' k5 := (((P1.trans P2 (by intro b hb hl; simp at hb; omega)).trans P3 (by intro b hb hl; simp at hb; omega)).trans P4 (by intro b hb hl; simp at hb; omega)).trans P5 (by intro b hb hl; simp at hb; omega)
      have tail : ∀ (o12 : Option (Nat × Value)), (o12.isSome = decide (i + 2 ∈ bl)) → (lkV (.agg #[]) o12 = .agg #[]) → ldV (some (lkV (.agg #[]) o12)) (fun v13 => newK k5 (.cells #[] 116) (fun b14 h15 => storeE Tryz.prog 116 (some (Addr.mk b14 0 none)) v13 h15 (fun h16 => ldB (rd h16 ⟨h'.size, 0, none⟩) (fun b17 => bcase b17 (bcase (!(Option.isSome o12)) (ldB (rd h16 ⟨h'.size, 0, none⟩) (fun b18 => ldI .i64 (rd h16 ⟨h'.size, 1, none⟩) (fun n19 => ldI .u32 (rd h16 ⟨h'.size, 2, none⟩) (fun n20 => ldI .u32 (rd h16 ⟨h'.size, 3, none⟩) (fun n21 => CallsH Tryz.prog 54 [(.pointer (some ⟨s, 0, none⟩)), (.int .u32 ((i + 2 : Nat) : Int)), (.agg #[(.bool b18), (.int .i64 n19), (.int .u32 n20), (.int .u32 n21)])] h16 (fun v22 h23 => (v22 = (.tuple #[]) ∧ F33.wL9 (d + 1) ⟨s, 0, none⟩ (some h5.size) B.p N.length B.c (N.length : Int) (IntKind.wrap .i64 ((i : Int) + 1)) h23 K))))))) (F33.wL9 (d + 1) ⟨s, 0, none⟩ (some h5.size) B.p N.length B.c (N.length : Int) (IntKind.wrap .i64 ((i : Int) + 1)) h16 K)) (F33.wL9 (d + 1) ⟨s, 0, none⟩ (some h5.size) B.p N.length B.c (N.length : Int) (IntKind.wrap .i64 ((i : Int) + 1)) h16 K))))) := by
        intro o12 e1 e2
        rw [e2]
        refine ⟨_, rfl, ?_⟩
        refine newK_at fun k6 B6 P6 y6 => ?_
        refine store116 ?_
        have C6 := B5.only P6 (by simp)
        have P16 : Only [] h' k6 := P15.trans P6 (by simp)
        have rc : ∀ k, rd k6 ⟨h'.size, k, none⟩ = ([.bool tv, .int .i64 lv, .int .u32 av, .int .u32 bv] : List Value)[k]? := fun k => At.rd C6 k
        refine ldB_of (by rw [rc 0]; rfl) ?_
        rw [e1]
        cases o with
        | none =>
          simp only [ncell, List.cons.injEq, Value.bool.injEq] at ec
          rw [← ec.1, bcase_false]
          exact skip (by split <;> rfl) k6 P16
        | some x =>
          simp only [ncell, List.cons.injEq, Value.bool.injEq, Value.int.injEq, true_and, and_true] at ec
          obtain ⟨c1, c2, c3, c4⟩ := ec
          rw [← c1, bcase_true]
          by_cases hm : i + 2 ∈ bl
          · rw [decide_eq_true hm, Bool.not_true, bcase_false]
            exact skip (if_pos hm) k6 P16
          · rw [decide_eq_false hm, Bool.not_false, bcase_true]
            refine ldB_of (by rw [rc 0]; rfl) (ldI_of (by rw [rc 1]; rfl) (ldI_of (by rw [rc 2]; rfl) (ldI_of (by rw [rc 3]; rfl) ?_)))
            rw [← c1, ← c2, ← c3, ← c4]
            rw [if_neg hm] at he
            have hE : nd (era bl N) i = some x := nd_some.2 he
            have hnew : NoKey ((era bl N).take i) (kf x) := fun k y hy e => by
              obtain ⟨q1, q2⟩ := nd_take hy
              have := kf_inj (hok k y q1) (hok i x hE) e
              subst this
              have := honce _ _ _ q1 hE
              omega
            have A7 := A.only P16 (by simp)
            have hc1 : cntN ((era bl N).take (i + 1)) = cntN ((era bl N).take i) + 1 := by rw [take_succ' he, cnt_app]; rfl
            have hc2 : cntN ((era bl N).take (i + 1)) ≤ cntN (era bl N) := (List.take_sublist _ _).countP_le
            refine lays54 A7 (t := tb) (m := m) (mc := mc) (sb := h3.size) (T := T) (N' := (era bl N).take (i + 1)) rfl rfl (by simp; omega)
              (T'.only P16 (by simp)) (M.only P16 (by simp) (by simp)) (Mp.only P16 (by simp)) (by omega) (by simp; omega) (by omega) (by omega) (by have := (At.lt (T'.only P16 (by simp))); omega) (by have := ((M.only P16 (by simp) (by simp)).head).lt; omega) (by have := ((M.only P16 (by simp) (by simp)).body).lt; omega)
              L (hok i x hE) hnew (by omega) (nd_out (by rw [List.length_take]; omega)) (fun k => ?_) hc1 fun k7 cs' mm' ops' fails' A8 T8 M8 Mp8 L8 O8 => ⟨rfl, ?_⟩
            · rw [take_succ' he, nd_app, List.length_take, era_len, Nat.min_eq_left (by omega)]
            · have lq : h5.size < k6.size := (Mq.only P16 (by simp)).lt
              exact nx k7 cs' mm' ops' fails' A8 T8 M8 Mp8 L8 ((Mq.only P16 (by simp)).only O8 (by simp; omega)) ((O.trans P16 (by simp)).trans O8 (by intro b hb hl; simp at hb ⊢; omega))
      refine look_map (m := mo) (Mq.only P15 (by simp)) (fun hn => ?_) fun j v hv => ?_
      · have : i + 2 ∉ bl := fun hm => by
          rw [(Om (i + 2)).1 hm] at hn
          cases hn
        exact tail none (by rw [decide_eq_false this]; rfl) rfl
      · have : i + 2 ∈ bl := Classical.byContradiction fun hm => by
          rw [(Om (i + 2)).2 hm] at hv
          cases hv
        rw [(Om (i + 2)).1 this] at hv
        injection hv with hv
        subst hv
        exact tail (some (j, .agg #[])) (by rw [decide_eq_true this]; rfl) rfl
  have second : ∀ (h' : Heap) (mo : List (Int × Value)), At h' s (scell room (B.tabs tb m mc h3.size) N.length F.length off) → TabIs h' tb m 0 T → MemIs h' m mc (List.replicate T 0) 0 0 → MapM h' h3.size .i64 [] →
      MapM h' h5.size .u32 mo → OutM mo bl → Only [s] h h' → F33.wk8 ⟨s, 0, none⟩ (some h5.size) h' K := by
    intro h' mo A T' M Mp Mq Om O
    unfold F33.wk8 F33.Jk8
    simp only [add_mk, Nat.zero_add]
    refine ldS_of (by rw [At.rd A]; rfl) ?_
    unfold F33.wk9 F33.Jk9
    refine ⟨_, main N.length 0 h' (List.replicate T 0) [] mo 0 0 (by omega) A T' M Mp ?_ Mq Om O⟩
    have cz : ∀ j, cell 0 (List.replicate T (0 : Int)) j = 0 := fun j => by
      unfold cell
      rw [List.getD_eq_getElem?_getD, List.getElem?_replicate]
      split <;> rfl
    refine ⟨by simp, TInv.empty fun i _ => cz i, fun j _ => .inl (cz j), by simp [nd], ?_, by simp [nd]⟩
    rw [cnt_zero T fun i _ => cz i]
    rfl
  unfold F33.wk4 F33.Jk4
  have first : ∀ (d i : Nat) (h' : Heap) (mo : List (Int × Value)), i + d = bl.length → At h' s (scell room (B.tabs tb m mc h3.size) N.length F.length off) → TabIs h' tb m 0 T → MemIs h' m mc (List.replicate T 0) 0 0 → MapM h' h3.size .i64 [] →
      MapM h' h5.size .u32 mo → OutM mo (bl.take i) → Only [s] h h' → F33.wL4 (d + 1) ⟨s, 0, none⟩ (some h5.size) bp bl.length bc (bl.length : Int) (i : Int) h' K := by
    intro d
    induction d with
    | zero =>
      intro i h' mo hd A T' M Mp Mq Om O
      unfold F33.wL4 F33.JL4
      rw [decide_eq_false (by omega), bcase_false]
      rw [List.take_of_length_le (by omega)] at Om
      exact second h' mo A T' M Mp Mq Om O
    | succ d ih =>
      intro i h' mo hd A T' M Mp Mq Om O
      have hi : i < bl.length := by omega
      obtain ⟨a, ea, er⟩ := (hbl.only' O fun a e hm => hbs a e (by simpa using hm)) i (by simpa using hi)
      have e3 : (bl.map fun (k : Nat) => (k : Int)).getD i 0 = (bl[i] : Int) := by simp [List.getD, hi]
      rw [e3] at er
      unfold F33.wL4 F33.JL4
      rw [decide_eq_true (by omega), bcase_true, ea, ptrK_some]
      refine ⟨by omega, by omega, ?_⟩
      rw [← ea, Nat.mul_one, Int.toNat_natCast, er]
      refine ldI_of rfl ?_
      refine upd_map Mq fun k3 Mq3 P3 y3 => ?_
      rw [show IntKind.wrap .i64 ((i : Int) + 1) = ((i + 1 : Nat) : Int) by
        rw [wrap_i64 (by omega) (by omega)]; omega]
      have lq := Mq.lt
      refine ih (i + 1) k3 _ (by omega) (A.only P3 (by simp; omega)) (T'.only P3 (by simp; omega)) (M.only P3 (by simp; omega) (by simp; omega)) (Mp.only P3 (by simp; omega)) Mq3 (fun k => ?_) (O.trans P3 (by intro b hb hl; simp at hb; omega))
      rw [lookup_mset, List.take_add_one, List.getElem?_eq_getElem hi]
      simp only [Option.toList_some, List.mem_append, List.mem_singleton]
      refine ⟨fun hk => ?_, fun hk => ?_⟩
      · by_cases e : k = bl[i]
        · rw [if_pos (by omega)]
        · rw [if_neg (by omega)]
          exact (Om k).1 (hk.resolve_right e)
      · rw [if_neg (fun e => hk (.inr (by omega)))]
        exact (Om k).2 fun hm => hk (.inl hm)
  have Z6 : OutM [] (bl.take 0) := fun k => ⟨fun hm => by simp at hm, fun _ => rfl⟩
  exact ⟨_, first bl.length 0 h6 [] (by omega) A6 ((T3.only O4 (by simp)).only O5 (by simp; omega) |>.only O6 (by simp)) (((M3.only O4 (by simp) (by simp)).only O5 (by simp; omega) (by simp; omega)).only O6 (by simp) (by simp)) (Mp5.only O6 (by simp)) Mq6 Z6 O16⟩
end Go.Proofs.YtnbnlhpleomaoaaGreat.Ev
/- NODES (package nodes): the node of a level and two children. Conditions: the store stands (StIs), the children are nodes of deeper levels. -/
namespace Go.Proofs.YtnbnlhpleomaoaaGreat.Ev
open Go
structure StIs (h : Heap) (s n room : Nat) (B : SB) (f g : Nat → Nat) (N : List (Option Nd)) (F : List Nat) (Q : Int → Int → Prop) (off : Bool) : Prop where
  m : StM h s n room B f g N F Q off
  t : TabM h s B N
  ok : NOk n N
  cnt : N.length = cntN N + F.length
  fre : F.Nodup ∧ ∀ a ∈ F, 2 ≤ a ∧ a - 2 < N.length ∧ nd N (a - 2) = none
theorem NOk.ndok {n : Nat} {N : List (Option Nd)} (H : NOk n N) (hn : n ≤ 8) (hl : N.length ≤ 32768) {i : Nat} {x : Nd} (hx : nd N i = some x) : NdOk x := by
  obtain ⟨a, b, c, d, -⟩ := H.node i x hx
  have lt : ∀ {y}, isN N y → y < 2 ^ 28 := fun {y} h => by
    rcases h with h | ⟨z, h⟩
    · omega
    · have := nd_lt h
      omega
  exact ⟨by omega, lt b, lt c, d⟩
/-- one node more -/
structure Plus (N N' : List (Option Nd)) (q : Nat) (x : Nd) : Prop where
  was : nd N q = none
  get : ∀ k, nd N' k = if k = q then some x else nd N k
  cnt : cntN N' = cntN N + 1
  len : N.length ≤ N'.length ∧ N'.length ≤ N.length + 1
theorem Plus.isN {N N' : List (Option Nd)} {q : Nat} {x : Nd} (P : Plus N N' q x) {a : Nat} (h : isN N a) : isN N' a := by
  rcases h with h | ⟨y, h⟩
  · exact .inl h
  · refine .inr ?_
    rw [P.get]
    split
    · exact ⟨_, rfl⟩
    · exact ⟨y, h⟩
theorem Plus.old {N N' : List (Option Nd)} {q : Nat} {x : Nd} (P : Plus N N' q x) {i : Nat} {y : Nd} (h : nd N i = some y) : nd N' i = some y := by
  rw [P.get, if_neg]
  · exact h
  · intro e
    subst e
    rw [P.was] at h
    cases h
theorem Plus.lvl {N N' : List (Option Nd)} {q n : Nat} {x : Nd} (P : Plus N N' q x) {a : Nat} (h : Ev.isN N a) : lvl n N' a = lvl n N a := by
  unfold Ev.lvl
  rcases h with h | ⟨y, h⟩
  · rw [if_pos h, if_pos h]
  · rw [P.old h, h]
theorem Plus.low {N N' : List (Option Nd)} {q : Nat} {x : Nd} (P : Plus N N' q x) {a : Nat} (h : Ev.isN N a) : low N' a = low N a := by
  unfold Ev.low
  rcases h with h | ⟨y, h⟩
  · rw [if_pos h, if_pos h]
  · rw [P.old h, h]
theorem Plus.high {N N' : List (Option Nd)} {q : Nat} {x : Nd} (P : Plus N N' q x) {a : Nat} (h : Ev.isN N a) : high N' a = high N a := by
  unfold Ev.high
  rcases h with h | ⟨y, h⟩
  · rw [if_pos h, if_pos h]
  · rw [P.old h, h]
theorem Plus.ok {n : Nat} {N N' : List (Option Nd)} {q : Nat} {x : Nd} (P : Plus N N' q x) (H : NOk n N) (h1 : x.1 < n) (h2 : Ev.isN N x.2.1) (h3 : Ev.isN N x.2.2) (h4 : x.2.1 ≠ x.2.2) (h5 : x.1 < Ev.lvl n N x.2.1) (h6 : x.1 < Ev.lvl n N x.2.2) (h7 : ∀ i, nd N i ≠ some x) : NOk n N' := by
  refine ⟨fun i y hy => ?_, fun i j y hi hj => ?_⟩
  · rw [P.get] at hy
    split at hy
    · injection hy with hy
      subst hy
      exact ⟨h1, P.isN h2, P.isN h3, h4, by rw [P.lvl h2]; exact h5, by rw [P.lvl h3]; exact h6⟩
    · obtain ⟨a, b, c, d, e, f⟩ := H.node i y hy
      exact ⟨a, P.isN b, P.isN c, d, by rw [P.lvl b]; exact e, by rw [P.lvl c]; exact f⟩
  · rw [P.get] at hi hj
    split at hi
    · injection hi with hi
      subst hi
      split at hj
      · omega
      · exact absurd hj (h7 j)
    · split at hj
      · injection hj with hj
        subst hj
        exact absurd hi (h7 i)
      · exact H.once i j y hi hj
/-- what Mk comes to -/
def MkRel (room : Nat) (N : List (Option Nd)) (l a b : Nat) (N' : List (Option Nd)) (r e : Nat) : Prop :=
  (a = b ∧ r = a ∧ e = 0 ∧ N' = N) ∨ (a ≠ b ∧ ∃ i, nd N i = some (l, a, b) ∧ r = i + 2 ∧ e = 0 ∧ N' = N) ∨
  (a ≠ b ∧ (∀ i, nd N i ≠ some (l, a, b)) ∧ room ≤ cntN N ∧ r = 0 ∧ e = 60 ∧ N' = N) ∨
  (a ≠ b ∧ (∀ i, nd N i ≠ some (l, a, b)) ∧ cntN N < room ∧ e = 0 ∧ ∃ q, r = q + 2 ∧ Plus N N' q (l, a, b))
section
variable {h : Heap} {s n room : Nat} {B : SB} {f g : Nat → Nat} {N : List (Option Nd)} {F : List Nat} {Q : Int → Int → Prop} {off : Bool} {K : Value → Heap → Prop}
theorem StIs.only {L : List Nat} {h' : Heap} (H : StIs h s n room B f g N F Q off) (O : Only L h h') (h1 : ∀ b ∈ L, b ∉ B.bm s ∧ b ∉ B.bt) : StIs h' s n room B f g N F Q off :=
  ⟨H.m.only O fun b hb => (h1 b hb).1, H.t.only O fun b hb => (h1 b hb).2, H.ok, H.cnt, H.fre⟩
set_option maxRecDepth 100000 in
/-- the handle taken, the node written and laid -/
theorem mk_tail (H : StM h s n room B f g N F Q off) (Tm : TabM h s B N) (ok : NOk n N) (hc : N.length = cntN N + F.length) (hfre : F.Nodup ∧ ∀ a ∈ F, 2 ≤ a ∧ a - 2 < N.length ∧ nd N (a - 2) = none) {l a b : Nat} (hl : l < n) (ha : isN N a) (hb : isN N b)
    (la : l < lvl n N a) (lb : l < lvl n N b) (hne : a ≠ b) (hnew : ∀ i, nd N i ≠ some (l, a, b)) (hr : cntN N < room) (hT : ∃ T cs mm ops fails, TabIs h B.tb B.m 0 T ∧ MemIs h B.m B.mc cs ops fails ∧ MapM h B.sb .i64 mm ∧ Laid T cs mm N ∧ (∃ k, T = 32 * 2 ^ k) ∧ 2 * (cntN N + 1) ≤ T ∧ T ≤ 262144)
    (hK : ∀ h' B' N' F' q, Plus N N' q (l, a, b) → StIs h' s n room B' f g N' F' Q off → Only (B.bm s ++ B.bt) h h' → (∀ y ∈ B'.bm s ++ B'.bt, y ∈ B.bm s ++ B.bt ∨ h.size ≤ y) → K (.tuple #[.int .u32 ((q + 2 : Nat) : Int), .int .i64 0]) h') :
    F56.wk17 ⟨s, 0, none⟩ (l : Int) (a : Int) (b : Int) h K := by
  have hn8 := H.n8
  have hlen := H.len
  unfold F56.wk17 F56.Jk17
  refine handle77 H (fun e => by subst e; simp at hc; omega) fun h1 p' c' N1 F1 a1 R H1 O1 hp => ldI_of rfl ?_
  have hsub : ∀ b ∈ s :: OwnB B.p, b ∈ B.bm s := fun b hb => by
    rcases List.mem_cons.1 hb with e | hb
    · subst e; simp [SB.bm]
    · simp only [SB.bm, List.mem_append]
      exact .inl (.inr hb)
  have Tm1 : TabM h1 s { B with p := p', c := c' } N := by
    have := Tm.only O1 (fun b hb hm => Tm.sep b hm (hsub b hb))
    refine ⟨this.tab, this.nd, fun b hb hm => ?_⟩
    rcases (SB.grow (c' := c') H.sep H.lt hp).2 b hm with h2 | h2
    · exact Tm.sep b hb h2
    · have := Tm.lt b hb
      omega
  have hT1 : ∃ T cs mm ops fails, TabIs h1 B.tb B.m 0 T ∧ MemIs h1 B.m B.mc cs ops fails ∧ MapM h1 B.sb .i64 mm ∧ Laid T cs mm N ∧ (∃ k, T = 32 * 2 ^ k) ∧ 2 * (cntN N + 1) ≤ T ∧ T ≤ 262144 := by
    obtain ⟨T, cs, mm, o, f', t1, t2, t3, t4⟩ := hT
    have d : ∀ b, b ∈ B.bt → b ∉ s :: OwnB B.p := fun b hb hl => Tm.sep b hb (hsub b hl)
    exact ⟨T, cs, mm, o, f', t1.only O1 (d _ (by simp [SB.bt])), t2.only O1 (d _ (by simp [SB.bt])) (d _ (by simp [SB.bt])), t3.only O1 (d _ (by simp [SB.bt])), t4⟩
  -- the index
  obtain ⟨q, eq, hq, hN1, hc1, hq0, hlen1, hF1⟩ : ∃ q, a1 = q + 2 ∧ N1[q]? = some none ∧ (∀ k, nd N1 k = nd N k) ∧ cntN N1 = cntN N ∧ nd N q = none ∧ (N.length ≤ N1.length ∧ N1.length ≤ N.length + 1) ∧ (N1.length = cntN N + F1.length + 1 ∧ F1.Nodup ∧ a1 ∉ F1 ∧ ∀ a ∈ F1, 2 ≤ a ∧ a - 2 < N1.length ∧ nd N (a - 2) = none) := by
    rcases R with ⟨e1, e2, e3, e4⟩ | ⟨e1, e2⟩
    · subst e1 e2 e3
      refine ⟨N.length, e4, by simp, fun k => ?_, by rw [cnt_app]; rfl, nd_out (Nat.le_refl _), by simp, by simp at hc; simp; omega, by simp, by simp, by simp⟩
      rw [nd_app]
      split
      · next e => rw [nd_out (by omega)]
      · rfl
    · subst e1 e2
      obtain ⟨g1, g2⟩ := hfre
      obtain ⟨f1, f2, f3⟩ := g2 a1 (by simp)
      refine ⟨a1 - 2, by omega, ?_, fun _ => rfl, rfl, f3, by omega, by simp at hc; omega, (List.nodup_append.1 g1).1, fun hm => (List.nodup_append.1 g1).2.2 a1 hm a1 (by simp) rfl, fun a ha => g2 a (by simp [ha])⟩
      obtain ⟨o, ho⟩ : ∃ o, N1[a1 - 2]? = some o := ⟨_, List.getElem?_eq_getElem f2⟩
      unfold nd at f3
      rw [ho] at f3 ⊢
      simp at f3
      rw [f3]
  subst eq
  have hql : q < N1.length := (List.getElem?_eq_some_iff.1 hq).1
  have hl1 := H1.len
  have wq : IntKind.wrap .u32 (((q + 2 : Nat) : Int) - 2) = ((q : Nat) : Int) := by
    have := wrap_sub2 (a := q + 2) (by omega) (by omega)
    rw [this]
    simp
  simp only [add_mk, Nat.zero_add]
  have rs1 : rd h1 ⟨s, 2, none⟩ = some (.slice p' N1.length c') := by rw [At.rd H1.S]; rfl
  obtain ⟨b0, e1, -⟩ := H1.cells hq
  have e1 : p' = some ⟨b0, 0, none⟩ := e1
  refine ldS_of rs1 ?_
  rw [e1, ptrK_some, wq]
  refine ⟨by omega, by omega, ?_⟩
  rw [add_mk, show 0 + Int.toNat (q : Int) * 4 = q * 4 by omega]
  simp only [add_mk]
  have W1 := H1.own
  rw [show SB.p { B with p := p', c := c' } = some ⟨b0, 0, none⟩ from e1] at W1
  have nl : (nrow N1).length = N1.length * 4 := nrow_len N1
  refine Own.set W1 (by omega) rfl fun h2 W2 O2 => Own.set W2 (by simp; omega) rfl fun h3 W3 O3 => Own.set W3 (by simp; omega) rfl fun h4 W4 O4 => Own.set W4 (by simp; omega) rfl fun h5 W5 O5 => ?_
  rw [nrow_set4 N1 q (some (l, a, b)) _ _ _ _ hql rfl] at W5
  have O25 : Only [b0] h1 h5 := ((O2.trans O3 (by simp)).trans O4 (by simp)).trans O5 (by simp)
  have hsep1 := H1.sep
  have nb : ∀ y ∈ [s, B.ob, B.cac, B.cm, B.cmc] ++ OwnB B.fp, y ∉ [b0] := fun y hy hm => by
    simp only [List.mem_singleton] at hm
    subst hm
    unfold SB.bm at hsep1
    simp only [List.nodup_append, List.mem_append, ne_eq] at hsep1
    obtain ⟨⟨_, _, g2⟩, _, g4⟩ := hsep1
    have hmp : y ∈ OwnB p' := by rw [e1]; simp [OwnB]
    rcases List.mem_append.1 hy with h | h
    · exact g2 y h y hmp rfl
    · exact g4 y (.inr hmp) y h rfl
  have H5 : StM h5 s n room { B with p := p', c := c' } f g (N1.set q (some (l, a, b))) F1 Q off := by
    have el : (N1.set q (some (l, a, b))).length = N1.length := by simp
    refine ⟨by rw [el]; exact H1.S.only O25 (nb _ (by simp)), H1.O.only O25 (nb _ (by simp)), by rw [el, show SB.p { B with p := p', c := c' } = some ⟨b0, 0, none⟩ from e1]; exact W5, H1.fre.only O25 fun y hy => nb _ (by simp only [List.mem_append]; exact .inr hy), H1.cac.only O25 (nb _ (by simp)) (nb _ (by simp)) (nb _ (by simp)), H1.n8, by rw [el]; exact H1.len, H1.sep⟩
  have Tm5 : TabM h5 s { B with p := p', c := c' } N := Tm1.only O25 fun y hy hm => by
    simp only [List.mem_singleton] at hy
    subst hy
    exact Tm1.sep y hm (by simp only [SB.bm, List.mem_append]; exact .inl (.inr (by rw [e1]; simp [OwnB])))
  have P : Plus N (N1.set q (some (l, a, b))) q (l, a, b) := by
    refine ⟨hq0, fun k => ?_, ?_, by simp; omega⟩
    · rw [nd_set hql, hN1]
    · rw [cntN_set hq, hc1]
  have rs5 : rd h5 ⟨s, 2, none⟩ = some (.slice p' N1.length c') := by
    have := H5.S
    rw [show (N1.set q (some (l, a, b))).length = N1.length by simp] at this
    rw [At.rd this]
    rfl
  refine ldS_of rs5 ?_
  rw [e1, ptrK_some]
  refine ⟨by omega, by omega, ?_⟩
  rw [add_mk, show 0 + Int.toNat (q : Int) * 4 = q * 4 by omega]
  simp only [add_mk]
  obtain ⟨b5, e5, r5⟩ := H5.cells (i := q) (o := some (l, a, b)) (by rw [List.getElem?_set_self hql])
  have : b5 = b0 := by
    have e5 : p' = some ⟨b5, 0, none⟩ := e5
    rw [e1] at e5
    injection e5 with e5
    injection e5 with e5
    exact e5.symm
  subst this
  refine ldB_of (by rw [r5 0 (by omega)]; rfl) (ldI_of (by rw [r5 1 (by omega)]; rfl) (ldI_of (by rw [r5 2 (by omega)]; rfl) (ldI_of (by rw [r5 3 (by omega)]; rfl) ?_)))
  have hx : NdOk (l, a, b) := by
    have ha' := isN_lt H ha
    have hb' := isN_lt H hb
    exact ⟨by show l < 256; omega, by show a < 2 ^ 28; omega, by show b < 2 ^ 28; omega, hne⟩
  obtain ⟨T, cs, mm, ops, fails, t1, t2, t3, L, t5, t6, t7⟩ : ∃ T cs mm ops fails, TabIs h5 B.tb B.m 0 T ∧ MemIs h5 B.m B.mc cs ops fails ∧ MapM h5 B.sb .i64 mm ∧ Laid T cs mm N ∧ (∃ k, T = 32 * 2 ^ k) ∧ 2 * (cntN N + 1) ≤ T ∧ T ≤ 262144 := by
    obtain ⟨T, cs, mm, o, f', t1, t2, t3, t4⟩ := hT1
    have d : ∀ y, y ∈ B.bt → y ∉ [b5] := fun y hy hm => by
      simp only [List.mem_singleton] at hm
      subst hm
      exact Tm1.sep y hy (by simp only [SB.bm, List.mem_append]; exact .inl (.inr (by rw [e1]; simp [OwnB])))
    exact ⟨T, cs, mm, o, f', t1.only O25 (d _ (by simp [SB.bt])), t2.only O25 (d _ (by simp [SB.bt])) (d _ (by simp [SB.bt])), t3.only O25 (d _ (by simp [SB.bt])), t4⟩
  have nn := Tm.nd
  simp only [SB.bt, List.nodup_cons, List.mem_cons, List.not_mem_nil, or_false, not_or, List.nodup_nil, and_true, not_false_eq_true] at nn
  have sp : s ∉ B.bt := fun hm => Tm.sep s hm (by simp [SB.bm])
  simp only [SB.bt, List.mem_cons, List.not_mem_nil, or_false, not_or] at sp
  have bl := Tm5.lt
  have S5 := H5.S
  rw [show (N1.set q (some (l, a, b))).length = N1.length by simp] at S5
  refine lays54 S5 (t := B.tb) (m := B.m) (mc := B.mc) (sb := B.sb) (T := T) rfl rfl (by simp; omega) t1 t2 t3 (by omega) (by simp; omega) (by omega) (by omega) (bl _ (by simp [SB.bt])) (bl _ (by simp [SB.bt])) (bl _ (by simp [SB.bt]))
    L hx (fun i y hy e => ?_) (by omega) hq0 P.get P.cnt fun h6 cs' mm' ops' fails' A6 T6 M6 Mp6 L6 O6 => ⟨rfl, ?_⟩
  · have := kf_inj (ok.ndok hn8.2 (by omega) hy) hx e
    subst this
    exact hnew i hy
  have Hm6 := H5.only O6 fun y hy hm => Tm5.sep y (by simp [SB.bt] at hy ⊢; omega) hm
  refine hK h6 { B with p := p', c := c' } _ F1 q P ⟨Hm6, ⟨⟨T, cs', mm', ops', fails', T6, M6, Mp6, L6, t5, by rw [P.cnt]; exact t6, t7⟩, Tm1.nd, Tm1.sep⟩, P.ok ok hl ha hb hne la lb hnew, by simp only [List.length_set]; rw [P.cnt]; omega, hF1.2.1, fun y hy => ?_⟩ ?_ fun y hy => ?_
  · obtain ⟨z1, z2, z3⟩ := hF1.2.2.2 y hy
    refine ⟨z1, by simp only [List.length_set]; exact z2, ?_⟩
    rw [P.get, if_neg]
    · exact z3
    · intro e
      apply hF1.2.2.1
      rw [show q + 2 = y by omega]
      exact hy
  · refine ((Only.mono O1 fun y hy _ => ?_).trans O25 fun y hy hlt => ?_).trans O6 fun y hy _ => ?_
    · simp only [List.mem_append]
      exact .inl (hsub y hy)
    · simp only [List.mem_singleton] at hy
      subst hy
      rcases hp y (by rw [e1]; simp [OwnB]) with h7 | h7
      · simp only [List.mem_append]
        exact .inl (hsub y (by simp [h7]))
      · omega
    · simp only [List.mem_append, SB.bt]
      simp at hy ⊢
      omega
  · rcases List.mem_append.1 hy with hy | hy
    · rcases (SB.grow (c' := c') H.sep H.lt hp).2 y hy with h7 | h7
      · exact .inl (List.mem_append.2 (.inl h7))
      · exact .inr h7
    · exact .inl (List.mem_append.2 (.inr hy))
end
end Go.Proofs.YtnbnlhpleomaoaaGreat.Ev
/- NODES (package nodes): Mk, the node of a level and two children. Conditions: the store stands (StIs), the children are nodes of deeper levels. -/
namespace Go.Proofs.YtnbnlhpleomaoaaGreat.Ev
open Go
section
variable {h : Heap} {s n room : Nat} {B : SB} {f g : Nat → Nat} {N : List (Option Nd)} {F : List Nat} {Q : Int → Int → Prop} {off : Bool} {K : Value → Heap → Prop}
set_option maxRecDepth 100000 in
theorem mk56 (H : StIs h s n room B f g N F Q off) {l a b : Nat} (hl : l < n) (ha : isN N a) (hb : isN N b) (la : l < lvl n N a) (lb : l < lvl n N b)
    (hK : ∀ h' B' N' F' r e, MkRel room N l a b N' r e → StIs h' s n room B' f g N' F' Q off → Only (B.bm s ++ B.bt) h h' → (∀ y ∈ B'.bm s ++ B'.bt, y ∈ B.bm s ++ B.bt ∨ h.size ≤ y) → K (.tuple #[.int .u32 (r : Int), .int .i64 (e : Int)]) h') :
    CallsH Tryz.prog 56 [.pointer (some ⟨s, 0, none⟩), .int .i64 (l : Int), .int .u32 (a : Int), .int .u32 (b : Int)] h K := by
  have hn8 := H.m.n8
  have hlen := H.m.len
  have ha' := isN_lt H.m ha
  have hb' := isN_lt H.m hb
  refine F56.spec _ _ _ _ h K ?_
  unfold F56.w F56.J0
  rw [decide_eq_false (by omega), bcase_false]
  refine vars58 H.m (ldI_of rfl ?_)
  rw [decide_eq_false (by omega), bcase_false]
  refine is21 H.m (by omega) (fun _ => ldB_of rfl ?_) fun e => absurd ha e
  rw [Bool.not_true, bcase_false]
  refine is21 H.m (by omega) (fun _ => ldB_of rfl ?_) fun e => absurd hb e
  rw [Bool.not_true, bcase_false]
  refine level46 H.m ha (ldI_of rfl ?_)
  rw [decide_eq_false (by omega), bcase_false]
  refine level46 H.m hb (ldI_of rfl ?_)
  rw [decide_eq_false (by omega), bcase_false]
  refine bcase_of (fun he => ?_) fun he => ?_
  · have he : a = b := by
      have : (a : Int) = b := by simpa using he
      omega
    exact hK h B N F a 0 (.inl ⟨he, rfl, rfl, rfl⟩) H (Only.refl _ _) fun y hy => .inl hy
  have hne : a ≠ b := fun e => by
    subst e
    simp at he
  unfold F56.wk9 F56.Jk9
  have hx : NdOk (l, a, b) := ⟨by show l < 256; omega, by show a < 2 ^ 28; omega, by show b < 2 ^ 28; omega, hne⟩
  refine key73 hx.1 hx.2.1 hx.2.2.1 (ldI_of rfl ?_)
  have hmb : ∀ y ∈ [B.m, B.mc], y ∈ B.bm s ++ B.bt := fun y hy => by
    simp only [List.mem_append, SB.bt]
    simp at hy ⊢
    omega
  have hk0 : nkey l a b ≠ 0 := by
    have := kf_ne hx
    unfold kf at this
    exact this
  refine has74 (k := nkey l a b) H.m H.t hk0 (fun h1 i x hx1 hx2 O1 T1 => ⟨_, _, rfl, ?_⟩) fun h1 hnk O1 T1 => ⟨_, _, rfl, ?_⟩
  · rw [bcase_true]
    have := kf_inj (H.ok.ndok hn8.2 (by omega) hx1) hx hx2
    subst this
    refine hK h1 B N F (i + 2) 0 (.inr (.inl ⟨hne, i, hx1, rfl, rfl, rfl⟩)) ⟨H.m.only O1 fun y hy hm => H.t.sep y (by simp [SB.bt] at hy ⊢; omega) hm, T1, H.ok, H.cnt, H.fre⟩ (O1.mono fun y hy _ => hmb y hy) fun y hy => .inl hy
  · have H1 : StM h1 s n room B f g N F Q off := H.m.only O1 fun y hy hm => H.t.sep y (by simp [SB.bt] at hy ⊢; omega) hm
    have OO : Only (B.bm s ++ B.bt) h h1 := O1.mono fun y hy _ => hmb y hy
    have hnew : ∀ i, nd N i ≠ some (l, a, b) := fun i hi => hnk i _ hi rfl
    have hcl := cntN_le N
    rw [bcase_false]
    simp only [add_mk, Nat.zero_add, Nat.add_zero]
    have r0 : rd h1 ⟨s, 0, none⟩ = some (.int .i64 (room : Int)) := by rw [At.rd H1.S]; rfl
    have r4 : rd h1 ⟨s, 4, none⟩ = some (.pointer (some ⟨B.tb, 0, none⟩)) := by rw [At.rd H1.S]; rfl
    refine ldI_of r0 (len75 H1 H.cnt (ldI_of rfl ⟨trivial, trivial, trivial, ldI_of r0 ⟨rfl, ?_⟩⟩))
    refine bcase_of (fun hf => ?_) fun hf => ?_
    · have hf := of_decide_eq_true hf
      exact hK h1 B N F 0 60 (.inr (.inr (.inl ⟨hne, hnew, by omega, rfl, rfl, rfl⟩))) ⟨H1, T1, H.ok, H.cnt, H.fre⟩ OO fun y hy => .inl hy
    have hf := of_decide_eq_false hf
    have hr : cntN N < room := by omega
    have fin : ∀ h' B' N' F' q, Plus N N' q (l, a, b) → StIs h' s n room B' f g N' F' Q off → Only (B.bm s ++ B.bt) h h' → (∀ y ∈ B'.bm s ++ B'.bt, y ∈ B.bm s ++ B.bt ∨ h.size ≤ y) → K (.tuple #[.int .u32 ((q + 2 : Nat) : Int), .int .i64 0]) h' := fun h' B' N' F' q P S O fr =>
      hK h' B' N' F' (q + 2) 0 (.inr (.inr (.inr ⟨hne, hnew, hr, rfl, q, rfl, P⟩))) S O fr
    obtain ⟨T, cs, mm, o, f', t1, t2, t3, L, t5, t6, t7⟩ := id T1.tab
    refine ldP_of r4 (len75 H1 H.cnt (ldI_of rfl ⟨trivial, trivial, trivial, ldP_of r4 ⟨rfl, slots_spec t1 (ldI_of rfl ⟨by trivial, by trivial, ?_⟩)⟩⟩))
    have w1 : IntKind.wrap .i64 ((cntN N : Int) + 1) = ((cntN N + 1 : Nat) : Int) := by rw [wrap_i64 (by omega) (by omega)]; omega
    have w2 : IntKind.wrap .i64 (2 * ((cntN N + 1 : Nat) : Int)) = ((2 * (cntN N + 1) : Nat) : Int) := by rw [wrap_i64 (by omega) (by omega)]; omega
    rw [w1, w2]
    refine bcase_of (fun hg => ?_) fun hg => ?_
    · have hg := of_decide_eq_true hg
      have w3 : IntKind.wrap .i64 (2 * (T : Int)) = ((2 * T : Nat) : Int) := by rw [wrap_i64 (by omega) (by omega)]; omega
      refine ldP_of r4 (slots_spec t1 (ldI_of rfl ?_))
      rw [w3]
      have hsz : s < h1.size := H1.S.lt
      refine grows33 (bl := []) H1.S H1.r (fun i hi => absurd hi (by simp)) (fun a e => by cases e) (by simp) (by rw [era_nil]; exact fun i x hx => H.ok.ndok hn8.2 (by omega) hx) (by rw [era_nil]; exact H.ok.once) (by obtain ⟨k, e⟩ := t5; exact ⟨k + 1, by rw [e, Nat.pow_succ]; omega⟩) (by rw [era_nil]; omega) (by omega)
        fun tb m mc sb h2 H2 T2 TX g1 g2 g3 g4 O2 => ⟨rfl, ?_⟩
      rw [era_nil] at T2 TX
      have hsm : s ∈ B.bm s := by simp [SB.bm]
      refine mk_tail H2 T2 H.ok H.cnt H.fre hl ha hb la lb hne hnew hr ?_ fun h3 B3 N3 F3 q P S3 O3 fr => fin h3 B3 N3 F3 q P S3 ?_ fun y hy => ?_
      · obtain ⟨cs', mm', o', f'', u1, u2, u3, u4⟩ := TX
        obtain ⟨k, e⟩ := t5
        exact ⟨2 * T, cs', mm', o', f'', u1, u2, u3, u4, ⟨k + 1, by rw [e, Nat.pow_succ]; omega⟩, by have := Nat.two_pow_pos k; omega, by omega⟩
      · refine (OO.trans O2 fun y hy _ => ?_).trans O3 fun y hy hlt => ?_
        · simp only [List.mem_singleton] at hy
          subst hy
          exact List.mem_append.2 (.inl hsm)
        · rcases List.mem_append.1 hy with hy | hy
          · exact List.mem_append.2 (.inl hy)
          · have := OO.size
            simp [SB.bt, SB.tabs] at hy
            omega
      · rcases fr y hy with hy | hy
        · rcases List.mem_append.1 hy with hy | hy
          · exact .inl (List.mem_append.2 (.inl hy))
          · have := OO.size
            simp [SB.bt, SB.tabs] at hy
            exact .inr (by omega)
        · have := OO.size
          have := O2.size
          exact .inr (by omega)
    · have hg := of_decide_eq_false hg
      refine mk_tail H1 T1 H.ok H.cnt H.fre hl ha hb la lb hne hnew hr ⟨T, cs, mm, o, f', t1, t2, t3, L, t5, by omega, t7⟩ fun h3 B3 N3 F3 q P S3 O3 fr => fin h3 B3 N3 F3 q P S3 (OO.trans O3 fun y hy _ => hy) fun y hy => ?_
      rcases fr y hy with hy | hy
      · exact .inl hy
      · have := OO.size
        exact .inr (by omega)
end
end Go.Proofs.YtnbnlhpleomaoaaGreat.Ev
/- THE STORE (package nodes) with its blocks hidden: made anew, asked, a node made. Conditions: the store stands (Sto). -/
namespace Go.Proofs.YtnbnlhpleomaoaaGreat.Ev
open Go
structure SX where
  n : Nat
  room : Nat
  f : Nat → Nat
  g : Nat → Nat
  N : List (Option Nd)
  Q : Int → Int → Prop
  off : Bool
def Sto (h : Heap) (s : Nat) (L : List Nat) (X : SX) : Prop := ∃ B F, L = B.bm s ++ B.bt ∧ StIs h s X.n X.room B X.f X.g X.N F X.Q X.off
/-- blocks of before, or new ones -/
def Fresh (L L' : List Nat) (h : Heap) : Prop := ∀ b ∈ L', b ∈ L ∨ h.size ≤ b
theorem Fresh.refl (L : List Nat) (h : Heap) : Fresh L L h := fun _ hb => .inl hb
theorem Fresh.trans {L L' L'' : List Nat} {h h' : Heap} (a : Fresh L L' h) (b : Fresh L' L'' h') (hz : h.size ≤ h'.size) : Fresh L L'' h := fun x hx => by
  rcases b x hx with h1 | h1
  · exact a x h1
  · exact .inr (by omega)
theorem Only.app {L L' : List Nat} {h h' h'' : Heap} (a : Only L h h') (b : Only L' h' h'') (f : Fresh L L' h) : Only L h h'' := a.trans b fun x hx hl => by
  rcases f x hx with h1 | h1
  · exact h1
  · omega
section
variable {h h' : Heap} {s : Nat} {L S : List Nat} {X : SX} {K : Value → Heap → Prop}
theorem Sto.only (H : Sto h s L X) (O : Only S h h') (hS : ∀ b ∈ S, b ∉ L) : Sto h' s L X := by
  obtain ⟨B, F, e, H⟩ := H
  subst e
  exact ⟨B, F, rfl, H.only O fun b hb => ⟨fun hm => hS b hb (List.mem_append.2 (.inl hm)), fun hm => hS b hb (List.mem_append.2 (.inr hm))⟩⟩
theorem Sto.only0 (H : Sto h s L X) (O : Only [] h h') : Sto h' s L X := H.only O (by simp)
theorem Sto.lt (H : Sto h s L X) : ∀ b ∈ L, b < h.size := fun b hb => by
  obtain ⟨B, F, e, H⟩ := H
  subst e
  rcases List.mem_append.1 hb with h1 | h1
  · exact H.m.lt b h1
  · exact H.t.lt b h1
theorem Sto.mem (H : Sto h s L X) : s ∈ L := by
  obtain ⟨B, F, e, H⟩ := H
  subst e
  simp [SB.bm]
theorem Sto.ok (H : Sto h s L X) : NOk X.n X.N ∧ 1 ≤ X.n ∧ X.n ≤ 8 ∧ X.N.length ≤ X.room ∧ X.room ≤ 32768 ∧ cntN X.N ≤ X.N.length := by
  obtain ⟨B, F, e, H⟩ := H
  exact ⟨H.ok, H.m.n8.1, H.m.n8.2, H.m.len.1, H.m.len.2.1, cntN_le _⟩
theorem Sto.isN_lt (H : Sto h s L X) {a : Nat} (ha : isN X.N a) : a < 32770 := by
  obtain ⟨B, F, e, H⟩ := H
  have := Ev.isN_lt H.m ha
  have := H.m.len
  omega
theorem sto_vars (H : Sto h s L X) (hK : K (.int .i64 (X.n : Int)) h) : CallsH Tryz.prog 58 [.pointer (some ⟨s, 0, none⟩)] h K := by
  obtain ⟨B, F, e, H⟩ := H
  exact vars58 H.m hK
theorem sto_is (H : Sto h s L X) {a : Nat} (ha : a < 4294967296) (h1 : isN X.N a → K (.bool true) h) (h0 : ¬ isN X.N a → K (.bool false) h) : CallsH Tryz.prog 21 [.pointer (some ⟨s, 0, none⟩), .int .u32 (a : Int)] h K := by
  obtain ⟨B, F, e, H⟩ := H
  exact is21 H.m ha h1 h0
theorem sto_is1 (H : Sto h s L X) {a : Nat} (ha : isN X.N a) (h1 : K (.bool true) h) : CallsH Tryz.prog 21 [.pointer (some ⟨s, 0, none⟩), .int .u32 (a : Int)] h K :=
  sto_is H (by have := H.isN_lt ha; omega) (fun _ => h1) fun e => absurd ha e
theorem sto_level (H : Sto h s L X) {a : Nat} (ha : isN X.N a) (hK : K (.int .i64 (lvl X.n X.N a : Int)) h) : CallsH Tryz.prog 46 [.pointer (some ⟨s, 0, none⟩), .int .u32 (a : Int)] h K := by
  obtain ⟨B, F, e, H⟩ := H
  exact level46 H.m ha hK
theorem sto_low (H : Sto h s L X) {a : Nat} (ha : isN X.N a) (hK : K (.int .u32 (low X.N a : Int)) h) : CallsH Tryz.prog 68 [.pointer (some ⟨s, 0, none⟩), .int .u32 (a : Int)] h K := by
  obtain ⟨B, F, e, H⟩ := H
  exact low68 H.m ha hK
theorem sto_high (H : Sto h s L X) {a : Nat} (ha : isN X.N a) (hK : K (.int .u32 (high X.N a : Int)) h) : CallsH Tryz.prog 69 [.pointer (some ⟨s, 0, none⟩), .int .u32 (a : Int)] h K := by
  obtain ⟨B, F, e, H⟩ := H
  exact high69 H.m ha hK
theorem sto_mk (H : Sto h s L X) {l a b : Nat} (hl : l < X.n) (ha : isN X.N a) (hb : isN X.N b) (la : l < lvl X.n X.N a) (lb : l < lvl X.n X.N b)
    (hK : ∀ h' L' N' r e, MkRel X.room X.N l a b N' r e → Sto h' s L' { X with N := N' } → Only L h h' → Fresh L L' h → K (.tuple #[.int .u32 (r : Int), .int .i64 (e : Int)]) h') :
    CallsH Tryz.prog 56 [.pointer (some ⟨s, 0, none⟩), .int .i64 (l : Int), .int .u32 (a : Int), .int .u32 (b : Int)] h K := by
  obtain ⟨B, F, e, H⟩ := H
  subst e
  exact mk56 H hl ha hb la lb fun h' B' N' F' r e R S O fr => hK h' _ N' r e R ⟨B', F', rfl, S⟩ O fr
theorem ord_copy {b n : Nat} {f g : Nat → Nat} (H : OrdIs h b n f g) (hK : ∀ c h', OrdIs h' c n f g → h.size ≤ c → Only [] h h' → K (.pointer (some ⟨c, 0, none⟩)) h') :
    CallsH Tryz.prog 57 [.pointer (some ⟨b, 0, none⟩)] h K := by
  refine F57.spec _ h K ?_
  unfold F57.w F57.J0
  have r : ∀ k, rd h ⟨b, k, none⟩ = (Value.int .i64 (n : Int) :: (L8 f ++ L8 g))[k]? := fun k => At.rd H k
  refine ldI_of (by rw [add_mk, r]; rfl) (ldI_of (by rw [add_mk, r]; rfl) (ldI_of (by rw [add_mk, r]; rfl) (ldI_of (by rw [add_mk, r]; rfl) (ldI_of (by rw [add_mk, r]; rfl) (ldI_of (by rw [add_mk, r]; rfl) (ldI_of (by rw [add_mk, r]; rfl) (ldI_of (by rw [add_mk, r]; rfl) (ldI_of (by rw [add_mk, r]; rfl) (ldI_of (by rw [add_mk, r]; rfl) (ldI_of (by rw [add_mk, r]; rfl) (ldI_of (by rw [add_mk, r]; rfl) (ldI_of (by rw [add_mk, r]; rfl) (ldI_of (by rw [add_mk, r]; rfl) (ldI_of (by rw [add_mk, r]; rfl) (ldI_of (by rw [add_mk, r]; rfl) (ldI_of (by rw [add_mk, r]; rfl) ?_))))))))))))))))
  refine newK_at fun h0 A0 O0 z0 => ?_
  show stL ⟨h.size, 0, none⟩ 0 (Value.int .i64 (n : Int) :: (L8 f ++ L8 g)) h0 fun h' => K (.pointer (some ⟨h.size, 0, none⟩)) h'
  refine stL_own (o := 0) _ 0 _ h0 A0 (by simp [L8]) (fun v hv => ?_) fun h' A' O' z => hK h.size h' ?_ (Nat.le_refl _) (O0.trans O' (by intro x hx hlt; simp at hx; omega))
  · simp only [List.mem_cons, List.mem_append, L8, List.mem_map] at hv
    rcases hv with e | ⟨i, _, e⟩ | ⟨i, _, e⟩ <;> subst e <;> rfl
  · simp [L8_len] at A'
    exact A'
end
end Go.Proofs.YtnbnlhpleomaoaaGreat.Ev
/- PRINTED BY PROGRAM: what each of these functions does, computed over heaps by the evaluator, and that its calls do so. Conditions: none. -/
namespace Go.Proofs.YtnbnlhpleomaoaaGreat.Ev
open Go
-- (*spinney/nodes.Store).Recall
namespace F86
def T : Hint := ⟨[(5, [14, 15]), (6, [14])], [(3, [[(0, []), (1, []), (2, []), (3, []), (4, []), (5, []), (6, []), (7, []), (8, []), (9, [0, 1, 2, 3]), (10, []), (11, [])]])]⟩
noncomputable def body : Code := (Tryz.f86.body).getD .skip
noncomputable def en (S : Stop) (p : List Nat) (κ : XK) : Fr → Heap → Prop := E Tryz.prog X T S (sub body p) κ
noncomputable def ln (S : Stop) (p : List Nat) (κ : XK) (n : Nat) : Fr → Heap → Prop := loopN S (E Tryz.prog X T S (sub body p)) (cutQ T (sub body p)) κ n
def fn (K : KK) : XK := fin Tryz.prog Tryz.f86.results.toList K
noncomputable def c0 (S : Stop) (K : KK) : XK := seqN S (cutQ T (sub body [1, 1, 1, 1])) (en S [1, 1, 1, 1] (fn K)) (fn K)
noncomputable def c1 (S : Stop) (K : KK) : XK := blockN 0 (c0 S K)
noncomputable def c2 (S : Stop) (n5 : Nat) (K : KK) : XK := backN S (cutQ T (sub body [1, 1, 1, 0, 1, 0, 0])) (ln S [1, 1, 1, 0, 1, 0, 0] (c1 S K) n5) (c1 S K)
def f5 (x14 : Option Addr) (x15 : Value) : Fr := [(14, (.pointer x14)), (15, x15)]
def f6 (x14 : Option Addr) : Fr := [(14, (.pointer x14))]
def J0 (k5 : (Option Addr) → Value → Heap → Prop) (x0 : Addr) (x1 x2 x3 x4 x5 : Int) (h : Heap) (K : KK) : Prop :=
  ldB (rd h (Addr.add x0 7)) (fun b1 => bcase b1 (K (.tuple #[(.int .u32 (0 : Int)), (.bool false)]) h) (ldP (rd h (Addr.add x0 6)) (fun p2 => CallsH Tryz.prog 107 [(.int .u8 x1), (.int .u8 x2), (.int .u32 x3), (.int .u32 x4), (.int .u32 x5)] h (fun v3 h4 => ldI .u64 (some v3) (fun n5 => ((.pointer (some x0)) = ((.pointer (some x0)) : Value) ∧ ((.pointer (some x0)) = ((.pointer (some x0)) : Value) ∧ ((.pointer (some (Addr.add x0 6))) = ((.pointer (some (Addr.add x0 6))) : Value) ∧ ldP (rd h4 (Addr.add x0 6)) (fun p6 => ((.pointer p6) = ((.pointer p2) : Value) ∧ CallsH Tryz.prog 106 [(.pointer p2), (.int .u64 n5)] h4 (fun v7 h8 => ldP (some v7) (fun p9 => k5 p9 (.func (.func 108) #[(.pointer p9)] #[]) h8))))))))))))
theorem E0 (S : Stop) (x0 : Addr) (x1 x2 x3 x4 x5 : Int) (h : Heap) (K : KK) : (E Tryz.prog X T S body (fin Tryz.prog Tryz.f86.results.toList K) (args0 0 [(.pointer (some x0)), (.int .u8 x1), (.int .u8 x2), (.int .u32 x3), (.int .u32 x4), (.int .u32 x5)]) h) = J0 (fun x14 x15 h => S (en S [1, 1, 1, 0, 1] (c0 S K)) (f5 x14 x15) h) x0 x1 x2 x3 x4 x5 h K := by kernel_rfl
def Jk5 (lp5 : (Option Addr) → Value → Heap → Prop) (x14 : Option Addr) (x15 : Value) (h : Heap) (_K : KK) : Prop :=
  lp5 x14 x15 h
theorem Ek5 (S : Stop) (x14 : Option Addr) (x15 : Value) (h : Heap) (K : KK) : (en S [1, 1, 1, 0, 1] (c0 S K) (f5 x14 x15) h) = Jk5 (fun x14 x15 h => ∃ n, S (ln S [1, 1, 1, 0, 1, 0, 0] (c1 S K) n) (f5 x14 x15) h) x14 x15 h K := by kernel_rfl
def JL5 (bk5 : (Option Addr) → Value → Heap → Prop) (k6 : (Option Addr) → Heap → Prop) (x14 : Option Addr) (x15 : Value) (h : Heap) (_K : KK) : Prop :=
  dynK Tryz.prog X x15 [] h (fun v1 h2 => ldB (some v1) (fun b3 => bcase (!b3) (bk5 x14 x15 h2) (k6 x14 h2)))
theorem EL5 (S : Stop) (n5 : Nat) (x14 : Option Addr) (x15 : Value) (h : Heap) (K : KK) : (en S [1, 1, 1, 0, 1, 0, 0] (c2 S n5 K) (f5 x14 x15) h) = JL5 (fun x14 x15 h => S (ln S [1, 1, 1, 0, 1, 0, 0] (c1 S K) n5) (f5 x14 x15) h) (fun x14 h => S (en S [1, 1, 1, 1] (fn K)) (f6 x14) h) x14 x15 h K := by kernel_rfl
def Jk6 (x14 : Option Addr) (h : Heap) (K : KK) : Prop :=
  CallsH Tryz.prog 109 [(.pointer x14)] h (fun v1 h2 => (∃ n3 : Int, ∃ b4 : Bool, v1 = (.tuple #[(.int .u64 n3), (.bool b4)]) ∧ K (.tuple #[(.int .u32 (IntKind.wrap .u32 n3)), (.bool b4)]) h2))
theorem Ek6 (S : Stop) (x14 : Option Addr) (h : Heap) (K : KK) : (en S [1, 1, 1, 1] (fn K) (f6 x14) h) = Jk6 x14 h K := by kernel_rfl
def wk6 (x14 : Option Addr) (h : Heap) (K : KK) : Prop :=
  Jk6 x14 h K
theorem ek6 (K : KK) (x14 : Option Addr) (h : Heap) : (en S0 [1, 1, 1, 1] (fn K) (f6 x14) h) = wk6 x14 h K := (Ek6 S0 x14 h K).trans (rfl)
def wL5 : Nat → (Option Addr) → Value → Heap → KK → Prop
  | 0, _, _, _, _ => False
  | n + 1, x14, x15, h, K => JL5 (fun x14 x15 h => wL5 n x14 x15 h K) (fun x14 h => wk6 x14 h K) x14 x15 h K
theorem eL5 (K : KK) : ∀ (n : Nat) (x14 : Option Addr) (x15 : Value) (h : Heap), (ln S0 [1, 1, 1, 0, 1, 0, 0] (c1 S0 K) n (f5 x14 x15) h) = wL5 n x14 x15 h K
  | 0, _, _, _ => rfl
  | n + 1, x14, x15, h => (EL5 S0 n x14 x15 h K).trans (cg2 (fun q0 q1 => JL5 q0 q1 x14 x15 h K) (by funext x14 x15 h; exact (fun x14 x15 h => eL5 K n x14 x15 h) x14 x15 h) (by funext x14 h; exact ek6 K x14 h))
def wk5 (x14 : Option Addr) (x15 : Value) (h : Heap) (K : KK) : Prop :=
  Jk5 (fun x14 x15 h => ∃ m, wL5 m x14 x15 h K) x14 x15 h K
theorem ek5 (K : KK) (x14 : Option Addr) (x15 : Value) (h : Heap) : (en S0 [1, 1, 1, 0, 1] (c0 S0 K) (f5 x14 x15) h) = wk5 x14 x15 h K := (Ek5 S0 x14 x15 h K).trans (cg1 (fun q0 => Jk5 q0 x14 x15 h K) (by funext x14 x15 h; exact ex_congr fun m => eL5 K m x14 x15 h))
def w (x0 : Addr) (x1 x2 x3 x4 x5 : Int) (h : Heap) (K : KK) : Prop :=
  J0 (fun x14 x15 h => wk5 x14 x15 h K) x0 x1 x2 x3 x4 x5 h K
theorem e0 (K : KK) (x0 : Addr) (x1 x2 x3 x4 x5 : Int) (h : Heap) : (E Tryz.prog X T S0 body (fin Tryz.prog Tryz.f86.results.toList K) (args0 0 [(.pointer (some x0)), (.int .u8 x1), (.int .u8 x2), (.int .u32 x3), (.int .u32 x4), (.int .u32 x5)]) h) = w x0 x1 x2 x3 x4 x5 h K := (E0 S0 x0 x1 x2 x3 x4 x5 h K).trans (cg1 (fun q0 => J0 q0 x0 x1 x2 x3 x4 x5 h K) (by funext x14 x15 h; exact ek5 K x14 x15 h))
theorem hb : Tryz.f86.body = some body := by kernel_rfl
theorem ok : okCode T Tryz.f86.ntmps body = true := by kernel_rfl
theorem spec (x0 : Addr) (x1 : Int) (x2 : Int) (x3 : Int) (x4 : Int) (x5 : Int) (h : Heap) (K : KK) (H : w x0 x1 x2 x3 x4 x5 h K) : CallsH Tryz.prog 86 [(.pointer (some x0)), (.int .u8 x1), (.int .u8 x2), (.int .u32 x3), (.int .u32 x4), (.int .u32 x5)] h K :=
  calls_of_E (T := T) Xok mix Tryz.func86 hb ok rfl (by rw [e0]; exact H)
end F86
-- (*spinney/nodes.Store).Note
namespace F88
def T : Hint := ⟨[(3, [15])], [(1, [[(0, []), (1, []), (2, []), (3, []), (4, []), (5, []), (6, []), (7, []), (8, []), (10, []), (11, []), (9, [0, 1, 2, 3, 10, 11]), (12, []), (13, [])]])]⟩
noncomputable def body : Code := (Tryz.f88.body).getD .skip
noncomputable def en (S : Stop) (p : List Nat) (κ : XK) : Fr → Heap → Prop := E Tryz.prog X T S (sub body p) κ
noncomputable def ln (S : Stop) (p : List Nat) (κ : XK) (n : Nat) : Fr → Heap → Prop := loopN S (E Tryz.prog X T S (sub body p)) (cutQ T (sub body p)) κ n
def fn (K : KK) : XK := fin Tryz.prog Tryz.f88.results.toList K
noncomputable def c0 (_S : Stop) (K : KK) : XK := blockN 0 (fn K)
noncomputable def c1 (S : Stop) (n3 : Nat) (K : KK) : XK := backN S (cutQ T (sub body [1, 1, 1, 0, 0])) (ln S [1, 1, 1, 0, 0] (c0 S K) n3) (c0 S K)
def f3 (x15 : Value) : Fr := [(15, x15)]
def J0 (k3 : Value → Heap → Prop) (x0 : Addr) (x1 x2 x3 x4 x5 x6 : Int) (h : Heap) (K : KK) : Prop :=
  ldB (rd h (Addr.add x0 7)) (fun b1 => bcase b1 (K (.tuple #[]) h) (ldP (rd h (Addr.add x0 6)) (fun p2 => CallsH Tryz.prog 107 [(.int .u8 x1), (.int .u8 x2), (.int .u32 x3), (.int .u32 x4), (.int .u32 x5)] h (fun v3 h4 => ldI .u64 (some v3) (fun n5 => ((.pointer (some x0)) = ((.pointer (some x0)) : Value) ∧ ((.pointer (some x0)) = ((.pointer (some x0)) : Value) ∧ ((.pointer (some (Addr.add x0 6))) = ((.pointer (some (Addr.add x0 6))) : Value) ∧ ldP (rd h4 (Addr.add x0 6)) (fun p6 => ((.pointer p6) = ((.pointer p2) : Value) ∧ ((.int .u32 x6) = ((.int .u32 x6) : Value) ∧ ((.int .u64 (IntKind.wrap .u64 x6)) = ((.int .u64 (IntKind.wrap .u64 x6)) : Value) ∧ CallsH Tryz.prog 111 [(.pointer p2), (.int .u64 n5), (.int .u64 (IntKind.wrap .u64 x6))] h4 (fun v7 h8 => ldP (some v7) (fun p9 => k3 (.func (.func 108) #[(.pointer p9)] #[]) h8))))))))))))))
theorem E0 (S : Stop) (x0 : Addr) (x1 x2 x3 x4 x5 x6 : Int) (h : Heap) (K : KK) : (E Tryz.prog X T S body (fin Tryz.prog Tryz.f88.results.toList K) (args0 0 [(.pointer (some x0)), (.int .u8 x1), (.int .u8 x2), (.int .u32 x3), (.int .u32 x4), (.int .u32 x5), (.int .u32 x6)]) h) = J0 (fun x15 h => S (en S [1, 1, 1] (fn K)) (f3 x15) h) x0 x1 x2 x3 x4 x5 x6 h K := by kernel_rfl
def Jk3 (lp3 : Value → Heap → Prop) (x15 : Value) (h : Heap) (_K : KK) : Prop :=
  lp3 x15 h
theorem Ek3 (S : Stop) (x15 : Value) (h : Heap) (K : KK) : (en S [1, 1, 1] (fn K) (f3 x15) h) = Jk3 (fun x15 h => ∃ n, S (ln S [1, 1, 1, 0, 0] (c0 S K) n) (f3 x15) h) x15 h K := by kernel_rfl
def JL3 (bk3 : Value → Heap → Prop) (x15 : Value) (h : Heap) (K : KK) : Prop :=
  dynK Tryz.prog X x15 [] h (fun v1 h2 => ldB (some v1) (fun b3 => bcase (!b3) (bk3 x15 h2) (K (.tuple #[]) h2)))
theorem EL3 (S : Stop) (n3 : Nat) (x15 : Value) (h : Heap) (K : KK) : (en S [1, 1, 1, 0, 0] (c1 S n3 K) (f3 x15) h) = JL3 (fun x15 h => S (ln S [1, 1, 1, 0, 0] (c0 S K) n3) (f3 x15) h) x15 h K := by kernel_rfl
def wL3 : Nat → Value → Heap → KK → Prop
  | 0, _, _, _ => False
  | n + 1, x15, h, K => JL3 (fun x15 h => wL3 n x15 h K) x15 h K
theorem eL3 (K : KK) : ∀ (n : Nat) (x15 : Value) (h : Heap), (ln S0 [1, 1, 1, 0, 0] (c0 S0 K) n (f3 x15) h) = wL3 n x15 h K
  | 0, _, _ => rfl
  | n + 1, x15, h => (EL3 S0 n x15 h K).trans (cg1 (fun q0 => JL3 q0 x15 h K) (by funext x15 h; exact (fun x15 h => eL3 K n x15 h) x15 h))
def wk3 (x15 : Value) (h : Heap) (K : KK) : Prop :=
  Jk3 (fun x15 h => ∃ m, wL3 m x15 h K) x15 h K
theorem ek3 (K : KK) (x15 : Value) (h : Heap) : (en S0 [1, 1, 1] (fn K) (f3 x15) h) = wk3 x15 h K := (Ek3 S0 x15 h K).trans (cg1 (fun q0 => Jk3 q0 x15 h K) (by funext x15 h; exact ex_congr fun m => eL3 K m x15 h))
def w (x0 : Addr) (x1 x2 x3 x4 x5 x6 : Int) (h : Heap) (K : KK) : Prop :=
  J0 (fun x15 h => wk3 x15 h K) x0 x1 x2 x3 x4 x5 x6 h K
theorem e0 (K : KK) (x0 : Addr) (x1 x2 x3 x4 x5 x6 : Int) (h : Heap) : (E Tryz.prog X T S0 body (fin Tryz.prog Tryz.f88.results.toList K) (args0 0 [(.pointer (some x0)), (.int .u8 x1), (.int .u8 x2), (.int .u32 x3), (.int .u32 x4), (.int .u32 x5), (.int .u32 x6)]) h) = w x0 x1 x2 x3 x4 x5 x6 h K := (E0 S0 x0 x1 x2 x3 x4 x5 x6 h K).trans (cg1 (fun q0 => J0 q0 x0 x1 x2 x3 x4 x5 x6 h K) (by funext x15 h; exact ek3 K x15 h))
theorem hb : Tryz.f88.body = some body := by kernel_rfl
theorem ok : okCode T Tryz.f88.ntmps body = true := by kernel_rfl
theorem spec (x0 : Addr) (x1 : Int) (x2 : Int) (x3 : Int) (x4 : Int) (x5 : Int) (x6 : Int) (h : Heap) (K : KK) (H : w x0 x1 x2 x3 x4 x5 x6 h K) : CallsH Tryz.prog 88 [(.pointer (some x0)), (.int .u8 x1), (.int .u8 x2), (.int .u32 x3), (.int .u32 x4), (.int .u32 x5), (.int .u32 x6)] h K :=
  calls_of_E (T := T) Xok mix Tryz.func88 hb ok rfl (by rw [e0]; exact H)
end F88
-- spinney/nodes.word
namespace F107
def T : Hint := ⟨[], []⟩
noncomputable def body : Code := (Tryz.f107.body).getD .skip
def J0 (x0 x1 x2 x3 x4 : Int) (h : Heap) (K : KK) : Prop :=
  (0 ≤ (56 : Int) ∧ (0 ≤ (48 : Int) ∧ (0 ≤ (32 : Int) ∧ (0 ≤ (16 : Int) ∧ K (.int .u64 (bitsI .or .u64 (bitsI .or .u64 (bitsI .or .u64 (bitsI .or .u64 (IntKind.wrap .u64 ((IntKind.wrap .u64 x0) * 2 ^ (min (Int.toNat (56 : Int)) (IntKind.bits .u64)))) (IntKind.wrap .u64 ((IntKind.wrap .u64 x1) * 2 ^ (min (Int.toNat (48 : Int)) (IntKind.bits .u64))))) (IntKind.wrap .u64 ((IntKind.wrap .u64 x2) * 2 ^ (min (Int.toNat (32 : Int)) (IntKind.bits .u64))))) (IntKind.wrap .u64 ((IntKind.wrap .u64 x3) * 2 ^ (min (Int.toNat (16 : Int)) (IntKind.bits .u64))))) (IntKind.wrap .u64 x4))) h))))
theorem E0 (S : Stop) (x0 x1 x2 x3 x4 : Int) (h : Heap) (K : KK) : (E Tryz.prog X T S body (fin Tryz.prog Tryz.f107.results.toList K) (args0 0 [(.int .u8 x0), (.int .u8 x1), (.int .u32 x2), (.int .u32 x3), (.int .u32 x4)]) h) = J0 x0 x1 x2 x3 x4 h K := by kernel_rfl
def w (x0 x1 x2 x3 x4 : Int) (h : Heap) (K : KK) : Prop :=
  J0 x0 x1 x2 x3 x4 h K
theorem e0 (K : KK) (x0 x1 x2 x3 x4 : Int) (h : Heap) : (E Tryz.prog X T S0 body (fin Tryz.prog Tryz.f107.results.toList K) (args0 0 [(.int .u8 x0), (.int .u8 x1), (.int .u32 x2), (.int .u32 x3), (.int .u32 x4)]) h) = w x0 x1 x2 x3 x4 h K := (E0 S0 x0 x1 x2 x3 x4 h K).trans (rfl)
theorem hb : Tryz.f107.body = some body := by kernel_rfl
theorem ok : okCode T Tryz.f107.ntmps body = true := by kernel_rfl
theorem spec (x0 : Int) (x1 : Int) (x2 : Int) (x3 : Int) (x4 : Int) (h : Heap) (K : KK) (H : w x0 x1 x2 x3 x4 h K) : CallsH Tryz.prog 107 [(.int .u8 x0), (.int .u8 x1), (.int .u32 x2), (.int .u32 x3), (.int .u32 x4)] h K :=
  calls_of_E (T := T) Xok mix Tryz.func107 hb ok rfl (by rw [e0]; exact H)
end F107
end Go.Proofs.YtnbnlhpleomaoaaGreat.Ev
/- THE STORE (package nodes) with its blocks hidden: New, Order, Recall, Note. Conditions: the store stands (Sto). -/
namespace Go.Proofs.YtnbnlhpleomaoaaGreat.Ev
open Go
set_option maxRecDepth 100000 in
theorem sto_new {h : Heap} {n room : Nat} {Q : Int → Int → Prop} {K : Value → Heap → Prop} (h1 : 1 ≤ n) (h8 : n ≤ 8) (r1 : 1 ≤ room) (r2 : room ≤ 32768)
    (hK : ∀ h' s L, Sto h' s L ⟨n, room, fill n, fill n, [], Q, false⟩ → Only [] h h' → (∀ b ∈ L, h.size ≤ b) → K (.tuple #[.pointer (some ⟨s, 0, none⟩), .int .i64 0]) h') :
    CallsH Tryz.prog 11 [.int .i64 (n : Int), .int .i64 (room : Int)] h K := by
  refine F11.spec _ _ h K ?_
  unfold F11.w F11.J0
  rw [decide_eq_false (by omega), bcase_false, decide_eq_false (by omega), bcase_false, decide_eq_false (by omega), bcase_false, decide_eq_false (by omega), bcase_false]
  unfold F11.wk5 F11.Jk5
  simp only [add_mk, Nat.zero_add]
  refine ord_new h1 h8 fun ob k1 Or g1 O1 => ldP_of rfl ?_
  have lo : ob < k1.size := At.lt Or
  refine newK_at fun k2 A2 O2 z2 => ?_
  refine cells_spec (k := 256) (by omega) (by omega) (ldI_of rfl ?_)
  rw [show (3 * 256 : Int) = ((768 : Nat) : Int) from rfl]
  refine new_spec fun cm cmc k3 M3 O3 g2 g3 => ldP_of rfl ?_
  rw [cellsFor_of (by omega)] at M3
  have l1 := M3.head.lt
  have l2 := M3.body.lt
  refine cacnew_spec (base := 0) (n := 256) M3 (by omega) (by omega) (by simp) (by simp) fun cac k4 C4 O4 g4 => ⟨_, _, rfl, ?_⟩
  have l3 := At.lt C4
  have A4 := (A2.only O3 (by simp)).only O4 (by simp)
  refine stK_at A4 (by simp) rfl fun k5 A5 O5 z5 => ?_
  have hB : ∃ B : SB, B = ⟨ob, 0, 0, 0, 0, cac, cm, cmc, none, 0, none, 0⟩ := ⟨_, rfl⟩
  obtain ⟨B, eB⟩ := hB
  have H5 : StR k5 k1.size n room B (fill n) (fill n) [] [] Q := by
    subst eB
    refine ⟨(((Or.only O2 (by simp)).only O3 (by simp)).only O4 (by simp)).only O5 (by simp; omega), Own.nil _ _ _, Win.nil _ _, ⟨List.replicate 768 0, 0, 0, ⟨C4.only O5 (by simp; omega), (M3.only O4 (by simp) (by simp)).only O5 (by simp; omega) (by simp; omega), by have := M3.head.lt; show cac ≠ cm; omega, by show cac ≠ cmc; omega, by omega, by omega, by simp, by simp⟩, ?_⟩, ⟨h1, h8⟩, ⟨by simp, r2, by simp⟩, ?_⟩
    · intro l hl
      have : ∀ j, (List.replicate 768 (0 : Int)).getD j 0 = 0 := fun j => by
        rw [List.getD_eq_getElem?_getD, List.getElem?_replicate]
        split <;> rfl
      rw [this]
      exact ⟨by omega, by omega, by omega, fun e => by omega⟩
    · have := M3.ne
      simp [SB.bm, OwnB]
      omega
  have := grows33 (T := 32) (bp := none) (bc := 0) (bl := []) (K := fun v h' => (v = (.tuple #[]) ∧ K (.tuple #[(.pointer (some (Addr.mk k1.size 0 none))), (.int .i64 (0 : Int))]) h')) (show At k5 k1.size (gcell room B 0 0 false (.pointer none) (.map none)) by subst eB; exact A5) H5 (fun i hi => absurd hi (by simp)) (fun a e => by cases e) (by simp) (by rw [era_nil]; simp [nd]) (by rw [era_nil]; simp [nd]) ⟨0, rfl⟩ (by rw [era_nil]; simp [cntN]) (by omega) fun tb m mc sb k6 H6 T6 _ p1 p2 p3 p4 O6 => ⟨rfl, ?_⟩
  · exact this
  rw [era_nil] at T6
  have OO : Only [] h k6 := ((((((O1.trans O2 (by simp)).trans O3 (by simp)).trans O4 (by simp)).trans O5 (by intro b hb hl; simp at hb; have := O1.size; omega)).trans O6 (by intro b hb hl; simp at hb; have := O1.size; omega)))
  have z1 := O1.size
  have z3 := O3.size
  have z4 := O4.size
  refine hK k6 k1.size _ ⟨_, [], rfl, H6, T6, ⟨by simp [nd], by simp [nd]⟩, by simp [cntN], by simp⟩ OO fun b hb => ?_
  subst eB
  simp [SB.bm, SB.bt, SB.tabs, OwnB] at hb
  omega
section
variable {h h' : Heap} {s : Nat} {L S : List Nat} {X : SX} {K : Value → Heap → Prop}
theorem sto_order (H : Sto h s L X) (hK : ∀ c h', OrdIs h' c X.n X.f X.g → h.size ≤ c → Only [] h h' → K (.pointer (some ⟨c, 0, none⟩)) h') : CallsH Tryz.prog 36 [.pointer (some ⟨s, 0, none⟩)] h K := by
  obtain ⟨B, F, e, H⟩ := H
  refine F36.spec _ h K ?_
  unfold F36.w F36.J0
  simp only [add_mk, Nat.zero_add]
  refine ldP_of (by rw [At.rd H.m.S]; rfl) ?_
  exact ord_copy H.m.O fun c h' a b d => ldP_of rfl (hK c h' a b d)
end
end Go.Proofs.YtnbnlhpleomaoaaGreat.Ev
/- THE STORE (package nodes): Recall and Note, over the cache. Conditions: the store stands (Sto); what is noted is allowed by its Q. -/
namespace Go.Proofs.YtnbnlhpleomaoaaGreat.Ev
open Go
/-- the key of an operation and its arguments -/
def wkey (op mask a b c : Nat) : Nat := op * 2 ^ 56 + (mask * 2 ^ 48 + (a * 2 ^ 32 + (b * 2 ^ 16 + c)))
theorem wkey_inj {op mask a b c op' mask' a' b' c' : Nat} (h2 : mask < 2 ^ 8) (h3 : a < 2 ^ 16) (h4 : b < 2 ^ 16) (h5 : c < 2 ^ 16) (g2 : mask' < 2 ^ 8) (g3 : a' < 2 ^ 16) (g4 : b' < 2 ^ 16) (g5 : c' < 2 ^ 16) (e : wkey op mask a b c = wkey op' mask' a' b' c') :
    op = op' ∧ mask = mask' ∧ a = a' ∧ b = b' ∧ c = c' := by
  unfold wkey at e
  omega
theorem word107 {h : Heap} {op mask a b c : Nat} {K : Value → Heap → Prop} (h1 : op < 2 ^ 8) (h2 : mask < 2 ^ 8) (h3 : a < 2 ^ 16) (h4 : b < 2 ^ 16) (h5 : c < 2 ^ 16) (hK : K (.int .u64 ((wkey op mask a b c : Nat) : Int)) h) :
    CallsH Tryz.prog 107 [.int .u8 (op : Int), .int .u8 (mask : Int), .int .u32 (a : Int), .int .u32 (b : Int), .int .u32 (c : Int)] h K := by
  refine F107.spec _ _ _ _ _ h K ?_
  unfold F107.w F107.J0
  have U : ∀ {x : Nat}, x < 2 ^ 64 → IntKind.wrap .u64 (x : Int) = (x : Int) := fun h => wrapU (by unfold U64; omega)
  have e1 : IntKind.wrap .u64 ((IntKind.wrap .u64 (op : Int)) * 2 ^ (min (Int.toNat (56 : Int)) (IntKind.bits .u64))) = ((op <<< 56 : Nat) : Int) := by
    rw [U (by omega), show min (Int.toNat (56 : Int)) (IntKind.bits .u64) = 56 by rfl, show (op : Int) * 2 ^ 56 = ((op * 2 ^ 56 : Nat) : Int) by omega, U (by omega), Nat.shiftLeft_eq]
  have e2 : IntKind.wrap .u64 ((IntKind.wrap .u64 (mask : Int)) * 2 ^ (min (Int.toNat (48 : Int)) (IntKind.bits .u64))) = ((mask <<< 48 : Nat) : Int) := by
    rw [U (by omega), show min (Int.toNat (48 : Int)) (IntKind.bits .u64) = 48 by rfl, show (mask : Int) * 2 ^ 48 = ((mask * 2 ^ 48 : Nat) : Int) by omega, U (by omega), Nat.shiftLeft_eq]
  have e3 : IntKind.wrap .u64 ((IntKind.wrap .u64 (a : Int)) * 2 ^ (min (Int.toNat (32 : Int)) (IntKind.bits .u64))) = ((a <<< 32 : Nat) : Int) := by
    rw [U (by omega), show min (Int.toNat (32 : Int)) (IntKind.bits .u64) = 32 by rfl, show (a : Int) * 2 ^ 32 = ((a * 2 ^ 32 : Nat) : Int) by omega, U (by omega), Nat.shiftLeft_eq]
  have e4 : IntKind.wrap .u64 ((IntKind.wrap .u64 (b : Int)) * 2 ^ (min (Int.toNat (16 : Int)) (IntKind.bits .u64))) = ((b <<< 16 : Nat) : Int) := by
    rw [U (by omega), show min (Int.toNat (16 : Int)) (IntKind.bits .u64) = 16 by rfl, show (b : Int) * 2 ^ 16 = ((b * 2 ^ 16 : Nat) : Int) by omega, U (by omega), Nat.shiftLeft_eq]
  refine ⟨by omega, by omega, by omega, by omega, ?_⟩
  rw [e1, e2, e3, e4, U (by omega)]
  have s1 : op <<< 56 < U64 := by rw [Nat.shiftLeft_eq]; unfold U64; omega
  have s2 : mask <<< 48 < U64 := by rw [Nat.shiftLeft_eq]; unfold U64; omega
  have s3 : a <<< 32 < U64 := by rw [Nat.shiftLeft_eq]; unfold U64; omega
  have s4 : b <<< 16 < U64 := by rw [Nat.shiftLeft_eq]; unfold U64; omega
  have s5 : c < U64 := by unfold U64; omega
  rw [bor s1 s2, bor (or_lt s1 s2) s3, bor (or_lt (or_lt s1 s2) s3) s4, bor (or_lt (or_lt (or_lt s1 s2) s3) s4) s5, Nat.or_assoc, Nat.or_assoc, Nat.or_assoc, ← Nat.shiftLeft_add_eq_or_of_lt h5,
    ← Nat.shiftLeft_add_eq_or_of_lt (b := b <<< 16 + c) (by rw [Nat.shiftLeft_eq]; omega), ← Nat.shiftLeft_add_eq_or_of_lt (b := a <<< 32 + (b <<< 16 + c)) (by rw [Nat.shiftLeft_eq, Nat.shiftLeft_eq]; omega),
    ← Nat.shiftLeft_add_eq_or_of_lt (b := mask <<< 48 + (a <<< 32 + (b <<< 16 + c))) (by rw [Nat.shiftLeft_eq, Nat.shiftLeft_eq, Nat.shiftLeft_eq]; omega)]
  rw [Nat.shiftLeft_eq, Nat.shiftLeft_eq, Nat.shiftLeft_eq, Nat.shiftLeft_eq]
  exact hK
theorem CSound.get {Q : Int → Int → Prop} {cs : List Int} {key v : Int} (S : CSound Q cs) (G : GetRel (lineOf 0 256 key) key cs v true) : Q key v := by
  rcases G with ⟨-, h1, h2, h3⟩ | ⟨h, -⟩
  · have hl := home_lt key (n := 256) (by omega)
    obtain ⟨a, b, c, d⟩ := S (home key 256) hl
    unfold lineOf at h1 h2 h3
    rw [Nat.zero_add] at h1 h2 h3
    rw [and_three a b] at h1
    rw [← h2, h3]
    exact d h1
  · cases h
theorem CSound.put {Q : Int → Int → Prop} {cs cs' : List Int} {key v : Int} (S : CSound Q cs) (G : PutRel (lineOf 0 256 key) key v cs cs') (hq : Q key v) : CSound Q cs' := by
  obtain ⟨h1, h2, h3⟩ := G
  have hl := home_lt key (n := 256) (by omega)
  unfold lineOf at h2 h3
  generalize home key 256 = y at hl h2 h3
  rw [Nat.zero_add] at h2 h3
  rcases h3 with ⟨h4, h5, h6, h7⟩ | ⟨-, h4⟩
  · intro l hl'
    by_cases e : l = y
    · subst e
      obtain ⟨a, b, c, d⟩ := S l hl'
      rw [or_two a b] at h5
      rw [h5, h6, h7]
      have w := wrap_u64' (4 * (cs.getD (3 * l) 0 / 4) + 2 + cs.getD (3 * l) 0 % 2 + 4)
      rw [w]
      refine ⟨by omega, by omega, by omega, fun _ => hq⟩
    · rw [h2 (3 * l) (by omega) (by omega) (by omega), h2 (3 * l + 1) (by omega) (by omega) (by omega), h2 (3 * l + 2) (by omega) (by omega) (by omega)]
      exact S l hl'
  · subst h4
    exact S
theorem go108 : xget X 108 = some Ext.go := by kernel_rfl
section
variable {h : Heap} {s : Nat} {L S : List Nat} {X : SX} {K : Value → Heap → Prop}
theorem recall_loop {c m mc f : Nat} {cs : List Int} {ops fails : Int} {key : Int} (W : CW h c m mc 0 256 cs ops fails) (H : ActIs h f m (getA 0 256 key)) (d1 : f ≠ c) (d2 : f ≠ m) (d3 : f ≠ mc)
    (hK : ∀ h' ops' fails' v ok, GetRel (lineOf 0 256 key) key cs v ok → CW h' c m mc 0 256 cs ops' fails' → Only [f, m, mc] h h' → K (.tuple #[.int .u32 (IntKind.wrap .u32 v), .bool ok]) h') :
    F86.wk5 (some ⟨f, 0, none⟩) (.func (.func 108) #[.pointer (some ⟨f, 0, none⟩)] #[]) h K := by
  unfold F86.wk5 F86.Jk5
  have main : ∀ (d : Nat) (A : Ac) (h1 : Heap) (ops1 fails1 : Int), 9 - A.ph ≤ d → A.ph ≤ 8 → GInv cs A → A.pos = lineOf 0 256 key → A.key = key → ActIs h1 f m A → CW h1 c m mc 0 256 cs ops1 fails1 → Only [f, m, mc] h h1 →
      F86.wL5 (d + 1) (some ⟨f, 0, none⟩) (.func (.func 108) #[.pointer (some ⟨f, 0, none⟩)] #[]) h1 K := by
    intro d
    induction d with
    | zero => intro A h1 ops1 fails1 hg hp; omega
    | succ d ih =>
      intro A h1 ops1 fails1 hg hph G hp hk H1 W1 O1
      unfold F86.wL5 F86.JL5
      refine dynK_go go108 ?_
      refine stepA_cw W1 H1 (by rw [hp]; exact W1.pos key) hph d1 d2 d3 fun h2 ops2 fails2 H2 W2 O2 => ldB_of rfl ?_
      obtain ⟨s1, s2, s3, s4⟩ := G.step
      rw [s1] at W2
      have O12 := O1.trans O2 fun b hb _ => hb
      rcases s4 with ⟨e, r⟩ | ⟨G', e⟩
      · rw [e, Bool.not_true, bcase_false]
        unfold F86.wk6 F86.Jk6
        refine got_spec H2 ⟨_, _, rfl, ?_⟩
        rw [hp, hk] at r
        exact hK h2 ops2 fails2 _ _ r W2 O12
      · rw [G'.1, Bool.not_false, bcase_true]
        have hp8 : (stepA cs A).1.ph ≤ 8 := by
          rcases G'.2.2 with e' | ⟨e', _⟩ | ⟨e', _⟩ | ⟨e', _⟩ <;> omega
        exact ih _ h2 ops2 fails2 (by omega) hp8 G' (s2.trans hp) (s3.trans hk) H2 W2 O12
  exact ⟨_, main 5 (getA 0 256 key) h ops fails (by show 9 - 5 ≤ 5; omega) (by show 5 ≤ 8; omega) ⟨rfl, rfl, Or.inl rfl⟩ rfl rfl H W (Only.refl _ _)⟩
theorem note_loop {c m mc f : Nat} {cs : List Int} {ops fails : Int} {key val : Int} (W : CW h c m mc 0 256 cs ops fails) (H : ActIs h f m (putA 0 256 key val)) (d1 : f ≠ c) (d2 : f ≠ m) (d3 : f ≠ mc)
    (hK : ∀ h' ops' fails' cs', PutRel (lineOf 0 256 key) key val cs cs' → CW h' c m mc 0 256 cs' ops' fails' → Only [f, m, mc] h h' → K (.tuple #[]) h') :
    F88.wk3 (.func (.func 108) #[.pointer (some ⟨f, 0, none⟩)] #[]) h K := by
  unfold F88.wk3 F88.Jk3
  have main : ∀ (d : Nat) (A : Ac) (cs1 : List Int) (h1 : Heap) (ops1 fails1 : Int), 5 - A.ph ≤ d → A.ph ≤ 4 → PInvA cs cs1 A → A.pos = lineOf 0 256 key → A.key = key → A.val = val → ActIs h1 f m A → CW h1 c m mc 0 256 cs1 ops1 fails1 → Only [f, m, mc] h h1 →
      F88.wL3 (d + 1) (.func (.func 108) #[.pointer (some ⟨f, 0, none⟩)] #[]) h1 K := by
    intro d
    induction d with
    | zero => intro A cs1 h1 ops1 fails1 hg hp; omega
    | succ d ih =>
      intro A cs1 h1 ops1 fails1 hg hph G hp hk hv H1 W1 O1
      unfold F88.wL3 F88.JL3
      refine dynK_go go108 ?_
      refine stepA_cw W1 H1 (by rw [hp]; exact W1.pos key) (by omega) d1 d2 d3 fun h2 ops2 fails2 H2 W2 O2 => ldB_of rfl ?_
      obtain ⟨s2, s3, s3', s4⟩ := G.step (by rw [hp]; exact W.pos key)
      have O12 := O1.trans O2 fun b hb _ => hb
      rcases s4 with ⟨e, eo, r⟩ | ⟨G', e⟩
      · rw [e, Bool.not_true, bcase_false]
        rw [hp, hk, hv] at r
        exact hK h2 ops2 fails2 _ r W2 O12
      · rw [G'.1, Bool.not_false, bcase_true]
        have hp4 : (stepA cs1 A).1.ph ≤ 4 := by
          rcases G'.2.2 with ⟨e', _⟩ | ⟨_, _, ⟨e', _⟩ | ⟨e', _⟩ | ⟨e', _⟩ | ⟨e', _⟩⟩ <;> omega
        exact ih _ _ h2 ops2 fails2 (by omega) hp4 G' (s2.trans hp) (s3.trans hk) (s3'.trans hv) H2 W2 O12
  exact ⟨_, main 5 (putA 0 256 key val) cs h ops fails (by show 5 - 0 ≤ 5; omega) (Nat.zero_le _) ⟨rfl, rfl, Or.inl ⟨rfl, rfl⟩⟩ rfl rfl rfl H W (Only.refl _ _)⟩
theorem cac_only {B : SB} {F : List Nat} {h' : Heap} (H : StIs h s X.n X.room B X.f X.g X.N F X.Q X.off) (O : Only [B.cm, B.cmc] h h') (C : CacOk h' B X.Q) : StIs h' s X.n X.room B X.f X.g X.N F X.Q X.off := by
  have sp := H.m.sep
  have ts := H.t.sep
  have n1 : ∀ b, b ∈ [s, B.ob] ++ OwnB B.p ++ OwnB B.fp → b ∉ [B.cm, B.cmc] := fun b hb hm => by
    unfold SB.bm at sp
    simp only [List.nodup_append, List.mem_append, ne_eq, List.nodup_cons, List.mem_cons, List.not_mem_nil, or_false, not_or] at sp
    obtain ⟨⟨g1, _, g2⟩, _, g4⟩ := sp
    have hc : b = s ∨ b = B.ob ∨ b = B.cac ∨ b = B.cm ∨ b = B.cmc := by simp at hm; omega
    simp only [List.mem_append, List.mem_cons, List.not_mem_nil, or_false] at hb hm
    rcases hb with (hb | hb) | hb
    · omega
    · exact g2 b hc b hb rfl
    · exact g4 b (.inl hc) b hb rfl
  refine ⟨⟨H.m.S.only O (n1 _ (by simp)), H.m.O.only O (n1 _ (by simp)), H.m.own.only O fun b hb => n1 _ (by simp [hb, OwnB]), H.m.fre.only O fun b hb => n1 _ (by simp [hb]), C, H.m.n8, H.m.len, H.m.sep⟩, H.t.only O fun b hb hm => ts b hm (by simp [SB.bm] at hb ⊢; omega), H.ok, H.cnt, H.fre⟩
theorem sto_recall (H : Sto h s L X) {op mask a b c : Nat} (h1 : op < 2 ^ 8) (h2 : mask < 2 ^ 8) (h3 : a < 2 ^ 16) (h4 : b < 2 ^ 16) (h5 : c < 2 ^ 16)
    (hN : ∀ h', Sto h' s L X → Only L h h' → K (.tuple #[.int .u32 0, .bool false]) h') (hY : ∀ h' v, X.Q (wkey op mask a b c : Nat) v → Sto h' s L X → Only L h h' → K (.tuple #[.int .u32 (IntKind.wrap .u32 v), .bool true]) h') :
    CallsH Tryz.prog 86 [.pointer (some ⟨s, 0, none⟩), .int .u8 (op : Int), .int .u8 (mask : Int), .int .u32 (a : Int), .int .u32 (b : Int), .int .u32 (c : Int)] h K := by
  have H0 := H
  obtain ⟨B, F, e, H⟩ := H
  obtain ⟨cs, o, f', W, S⟩ := H.m.cac
  refine F86.spec _ _ _ _ _ _ h K ?_
  unfold F86.w F86.J0
  simp only [add_mk, Nat.zero_add]
  refine ldB_of (n := X.off) (by rw [At.rd H.m.S]; rfl) (bcase_of (fun _ => hN h H0 (Only.refl _ _)) fun _ => ?_)
  have rc : rd h ⟨s, 6, none⟩ = some (.pointer (some ⟨B.cac, 0, none⟩)) := by rw [At.rd H.m.S]; rfl
  refine ldP_of rc (word107 h1 h2 h3 h4 h5 (ldI_of rfl ⟨trivial, trivial, trivial, ldP_of rc ⟨rfl, ?_⟩⟩))
  refine get_spec W.cac (by omega) (by omega) (by omega) fun f k1 A1 O1 g1 => ldP_of rfl ?_
  have wl := W.lt
  refine recall_loop (W.only O1 (by simp) (by simp) (by simp)) A1 (by omega) (by omega) (by omega) fun h' ops' fails' v ok G W' O' => ?_
  have OO : Only [B.cm, B.cmc] h h' := ((Only.refl [B.cm, B.cmc] h).trans O1 (by simp)).trans O' (by intro x hx hl; simp at hx ⊢; omega)
  have S' : Sto h' s L X := ⟨B, F, e, cac_only H OO ⟨cs, ops', fails', W', S⟩⟩
  have OL : Only L h h' := OO.mono fun x hx _ => by
    subst e
    simp [SB.bm] at hx ⊢
    omega
  cases ok with
  | true => exact hY h' v (S.get G) S' OL
  | false =>
    rcases G with ⟨g, -⟩ | ⟨-, g, -⟩
    · cases g
    · subst g
      exact hN h' S' OL
theorem sto_note (H : Sto h s L X) {op mask a b c r : Nat} (h1 : op < 2 ^ 8) (h2 : mask < 2 ^ 8) (h3 : a < 2 ^ 16) (h4 : b < 2 ^ 16) (h5 : c < 2 ^ 16) (h6 : r < 2 ^ 32) (hq : X.Q (wkey op mask a b c : Nat) (r : Int))
    (hK : ∀ h', Sto h' s L X → Only L h h' → K (.tuple #[]) h') :
    CallsH Tryz.prog 88 [.pointer (some ⟨s, 0, none⟩), .int .u8 (op : Int), .int .u8 (mask : Int), .int .u32 (a : Int), .int .u32 (b : Int), .int .u32 (c : Int), .int .u32 (r : Int)] h K := by
  have H0 := H
  obtain ⟨B, F, e, H⟩ := H
  obtain ⟨cs, o, f', W, S⟩ := H.m.cac
  refine F88.spec _ _ _ _ _ _ _ h K ?_
  unfold F88.w F88.J0
  simp only [add_mk, Nat.zero_add]
  refine ldB_of (n := X.off) (by rw [At.rd H.m.S]; rfl) (bcase_of (fun _ => hK h H0 (Only.refl _ _)) fun _ => ?_)
  have rc : rd h ⟨s, 6, none⟩ = some (.pointer (some ⟨B.cac, 0, none⟩)) := by rw [At.rd H.m.S]; rfl
  refine ldP_of rc (word107 h1 h2 h3 h4 h5 (ldI_of rfl ⟨trivial, trivial, trivial, ldP_of rc ⟨rfl, by trivial, by trivial, ?_⟩⟩))
  rw [wrapU (a := r) (by unfold U64; omega)]
  refine put_spec W.cac (by omega) (by omega) (by omega) fun f k1 A1 O1 g1 => ldP_of rfl ?_
  have wl := W.lt
  refine note_loop (W.only O1 (by simp) (by simp) (by simp)) A1 (by omega) (by omega) (by omega) fun h' ops' fails' cs' G W' O' => ?_
  have OO : Only [B.cm, B.cmc] h h' := ((Only.refl [B.cm, B.cmc] h).trans O1 (by simp)).trans O' (by intro x hx hl; simp at hx ⊢; omega)
  have S' : Sto h' s L X := ⟨B, F, e, cac_only H OO ⟨cs', ops', fails', W', S.put G hq⟩⟩
  have OL : Only L h h' := OO.mono fun x hx _ => by
    subst e
    simp [SB.bm] at hx ⊢
    omega
  exact hK h' S' OL
end
end Go.Proofs.YtnbnlhpleomaoaaGreat.Ev
/- DECISION DIAGRAMS, plainly: what a node's function is, that more nodes leave it alone, how many nodes a level has. Conditions: the nodes are in order (NOk). -/
namespace Go.Proofs.YtnbnlhpleomaoaaGreat.Ev
open Go
def sem (f : Nat → Nat) (N : List (Option Nd)) : Nat → Nat → Nat → Bool
  | 0, a, _ => a == 1
  | d + 1, a, x => if a < 2 then a == 1 else if x.testBit (f (lvl 0 N a)) then sem f N d (high N a) x else sem f N d (low N a) x
/-- a node's function -/
def sm (n : Nat) (f : Nat → Nat) (N : List (Option Nd)) (a x : Nat) : Bool := sem f N n a x
theorem lvl_any {n m : Nat} {N : List (Option Nd)} {a : Nat} (h : 2 ≤ a) : lvl n N a = lvl m N a := by
  unfold lvl
  rw [if_neg (by omega), if_neg (by omega)]
section
variable {n : Nat} {f : Nat → Nat} {N N' : List (Option Nd)} {a b x : Nat}
theorem NOk.at (H : NOk n N) (ha : isN N a) (h2 : 2 ≤ a) : lvl n N a < n ∧ isN N (low N a) ∧ isN N (high N a) ∧ low N a ≠ high N a ∧ lvl n N a < lvl n N (low N a) ∧ lvl n N a < lvl n N (high N a) := by
  rcases ha with h | ⟨x, h⟩
  · omega
  · have := H.node _ x h
    have e1 : lvl n N a = x.1 := by unfold lvl; rw [if_neg (by omega), h]
    have e2 : low N a = x.2.1 := by unfold low; rw [if_neg (by omega), h]
    have e3 : high N a = x.2.2 := by unfold high; rw [if_neg (by omega), h]
    rw [e1, e2, e3]
    exact this
theorem lvl_le (H : NOk n N) (ha : isN N a) : lvl n N a ≤ n := by
  by_cases h2 : a < 2
  · unfold lvl
    rw [if_pos h2]
    exact Nat.le_refl _
  · have := (H.at ha (by omega)).1
    omega
theorem sem_fuel (H : NOk n N) : ∀ (d e : Nat) {a : Nat}, isN N a → n - lvl n N a ≤ d → n - lvl n N a ≤ e → sem f N d a x = sem f N e a x := by
  intro d
  induction d with
  | zero =>
    intro e a ha hd he
    have h2 : a < 2 := by
      apply Classical.byContradiction
      intro hn
      have := (H.at ha (by omega)).1
      omega
    cases e with
    | zero => rfl
    | succ e => unfold sem; rw [if_pos h2]
  | succ d ih =>
    intro e a ha hd he
    cases e with
    | zero =>
      have h2 : a < 2 := by
        apply Classical.byContradiction
        intro hn
        have := (H.at ha (by omega)).1
        omega
      unfold sem
      rw [if_pos h2]
    | succ e =>
      unfold sem
      by_cases h2 : a < 2
      · rw [if_pos h2, if_pos h2]
      · rw [if_neg h2, if_neg h2]
        obtain ⟨h3, h4, h5, -, h6, h7⟩ := H.at ha (by omega)
        split
        · exact ih e h5 (by omega) (by omega)
        · exact ih e h4 (by omega) (by omega)
theorem sm_const (h : a < 2) : sm n f N a x = (a == 1) := by
  unfold sm
  cases n with
  | zero => rfl
  | succ n => unfold sem; rw [if_pos h]
theorem sm_node (H : NOk n N) (ha : isN N a) (h2 : 2 ≤ a) : sm n f N a x = if x.testBit (f (lvl n N a)) then sm n f N (high N a) x else sm n f N (low N a) x := by
  obtain ⟨h3, h4, h5, -, h6, h7⟩ := H.at ha h2
  unfold sm
  cases n with
  | zero => omega
  | succ n =>
    conv => lhs; unfold sem
    rw [if_neg (by omega), lvl_any (n := 0) (m := n + 1) h2, sem_fuel H n (n + 1) h4 (by omega) (by omega), sem_fuel H n (n + 1) h5 (by omega) (by omega)]
/-- nodes stay -/
def Ex (N N' : List (Option Nd)) : Prop := ∀ i x, nd N i = some x → nd N' i = some x
theorem Ex.refl (N : List (Option Nd)) : Ex N N := fun _ _ h => h
theorem Ex.trans {N'' : List (Option Nd)} (h : Ex N N') (g : Ex N' N'') : Ex N N'' := fun i x e => g i x (h i x e)
theorem Plus.ext {q : Nat} {x : Nd} (P : Plus N N' q x) : Ex N N' := fun _ _ h => P.old h
theorem Ex.isN (E : Ex N N') (h : Ev.isN N a) : Ev.isN N' a := h.imp id fun ⟨x, h⟩ => ⟨x, E _ x h⟩
theorem Ex.lvl (E : Ex N N') (h : Ev.isN N a) : lvl n N' a = lvl n N a := by
  unfold Ev.lvl
  rcases h with h | ⟨x, h⟩
  · rw [if_pos h, if_pos h]
  · rw [E _ x h, h]
theorem Ex.low (E : Ex N N') (h : Ev.isN N a) : low N' a = low N a := by
  unfold Ev.low
  rcases h with h | ⟨x, h⟩
  · rw [if_pos h, if_pos h]
  · rw [E _ x h, h]
theorem Ex.high (E : Ex N N') (h : Ev.isN N a) : high N' a = high N a := by
  unfold Ev.high
  rcases h with h | ⟨x, h⟩
  · rw [if_pos h, if_pos h]
  · rw [E _ x h, h]
theorem Ex.sem (H : NOk n N) (E : Ex N N') : ∀ (d : Nat) {a : Nat}, Ev.isN N a → Ev.sem f N' d a x = Ev.sem f N d a x := by
  intro d
  induction d with
  | zero => intro a _; rfl
  | succ d ih =>
    intro a ha
    unfold Ev.sem
    by_cases h2 : a < 2
    · rw [if_pos h2, if_pos h2]
    · obtain ⟨h3, h4, h5, -, h6, h7⟩ := H.at ha (by omega)
      rw [if_neg h2, if_neg h2, E.lvl ha, E.low ha, E.high ha, ih h4, ih h5]
theorem Ex.sm (H : NOk n N) (E : Ex N N') (ha : Ev.isN N a) : sm n f N' a x = sm n f N a x := E.sem H n ha
/-- what Mk makes -/
theorem mk_node {room l r : Nat} (H : NOk n N) (H' : NOk n N') (ha : isN N a) (hb : isN N b) (la : l < lvl n N a) (R : MkRel room N l a b N' r 0) :
    Ex N N' ∧ isN N' r ∧ l ≤ lvl n N' r ∧ ∀ x, sm n f N' r x = if x.testBit (f l) then sm n f N b x else sm n f N a x := by
  rcases R with ⟨h1, h2, -, h4⟩ | ⟨h1, i, h2, h3, -, h4⟩ | ⟨-, -, -, -, h, -⟩ | ⟨h1, -, -, -, q, h3, P⟩
  · subst h1 h2 h4
    exact ⟨Ex.refl _, ha, by omega, fun x => by simp⟩
  · subst h3 h4
    have hr : isN N' (i + 2) := .inr ⟨_, h2⟩
    have e1 : lvl n N' (i + 2) = l := by unfold lvl; rw [if_neg (by omega), show i + 2 - 2 = i by omega, h2]
    have e2 : low N' (i + 2) = a := by unfold low; rw [if_neg (by omega), show i + 2 - 2 = i by omega, h2]
    have e3 : high N' (i + 2) = b := by unfold high; rw [if_neg (by omega), show i + 2 - 2 = i by omega, h2]
    refine ⟨Ex.refl _, hr, by omega, fun x => ?_⟩
    rw [sm_node H hr (by omega), e1, e2, e3]
  · omega
  · subst h3
    have E := P.ext
    have hn : nd N' q = some (l, a, b) := by rw [P.get, if_pos rfl]
    have hr : isN N' (q + 2) := .inr ⟨_, hn⟩
    have e1 : lvl n N' (q + 2) = l := by unfold lvl; rw [if_neg (by omega), show q + 2 - 2 = q by omega, hn]
    have e2 : low N' (q + 2) = a := by unfold low; rw [if_neg (by omega), show q + 2 - 2 = q by omega, hn]
    have e3 : high N' (q + 2) = b := by unfold high; rw [if_neg (by omega), show q + 2 - 2 = q by omega, hn]
    refine ⟨E, hr, by omega, fun x => ?_⟩
    rw [sm_node H' hr (by omega), e1, e2, e3, E.sm H ha, E.sm H hb]
end
/-- how many nodes have a level that p takes -/
def clN (p : Nat → Bool) (N : List (Option Nd)) : Nat := N.countP fun o => match o with | some x => p x.1 | none => false
theorem cl_split (p : Nat → Bool) : ∀ N : List (Option Nd), cntN N = clN p N + clN (fun l => !p l) N
  | [] => rfl
  | o :: N => by
    have ih := cl_split p N
    unfold cntN clN at ih ⊢
    rw [List.countP_cons, List.countP_cons, List.countP_cons, ih]
    cases o with
    | none => simp
    | some x => cases h : p x.1 <;> simp [h] <;> omega
theorem nd_cons {o : Option Nd} {N : List (Option Nd)} {i : Nat} : nd (o :: N) (i + 1) = nd N i := by simp [nd]
theorem nd_zero {o : Option Nd} {N : List (Option Nd)} : nd (o :: N) 0 = o := by simp [nd]
theorem cl_le_one {p : Nat → Bool} : ∀ (N : List (Option Nd)) (y : Nd), (∀ i j, nd N i = some y → nd N j = some y → i = j) → N.countP (fun o => decide (o = some y)) ≤ 1
  | [], y, _ => by simp
  | o :: N, y, h => by
    rw [List.countP_cons]
    have ih := cl_le_one (p := p) N y fun i j hi hj => by
      have := h (i + 1) (j + 1) (by rw [nd_cons]; exact hi) (by rw [nd_cons]; exact hj)
      omega
    by_cases e : o = some y
    · subst e
      have h0 : N.countP (fun o => decide (o = some y)) = 0 := by
        rw [List.countP_eq_zero]
        intro x hx hh
        have hh : x = some y := of_decide_eq_true hh
        subst hh
        obtain ⟨k, hk⟩ := List.mem_iff_getElem?.1 hx
        have := h 0 (k + 1) nd_zero (by rw [nd_cons]; exact nd_some.2 hk)
        omega
      rw [h0]
      simp
    · simp [e]
      exact ih
/-- the lowest level has two nodes at most -/
theorem cl_last {n : Nat} {N : List (Option Nd)} (H : NOk n N) (p : Nat → Bool) (hp : ∀ l, l < n → p l = true → l + 1 = n) : clN p N ≤ 2 := by
  have h1 : clN p N ≤ N.countP (fun o => decide (o = some (n - 1, 0, 1)) || decide (o = some (n - 1, 1, 0))) := by
    unfold clN
    apply List.countP_mono_left
    intro o ho h
    cases o with
    | none => simp at h
    | some x =>
      obtain ⟨i, hi⟩ := List.mem_iff_getElem?.1 ho
      obtain ⟨g1, g2, g3, g4, g5, g6⟩ := H.node i x (nd_some.2 hi)
      have e := hp x.1 g1 h
      have lt2 : ∀ y, isN N y → x.1 < lvl n N y → y < 2 := fun y hy hl => by
        apply Classical.byContradiction
        intro hn
        have := (H.at hy (by omega)).1
        omega
      have a1 := lt2 _ g2 g5
      have a2 := lt2 _ g3 g6
      obtain ⟨x1, x2, x3⟩ := x
      dsimp only at *
      have : (x2 = 0 ∧ x3 = 1) ∨ (x2 = 1 ∧ x3 = 0) := by omega
      rcases this with ⟨rfl, rfl⟩ | ⟨rfl, rfl⟩
      · simp; omega
      · simp; omega
  have h2 : N.countP (fun o => decide (o = some (n - 1, 0, 1)) || decide (o = some (n - 1, 1, 0))) ≤ N.countP (fun o => decide (o = some (n - 1, 0, 1))) + N.countP (fun o => decide (o = some (n - 1, 1, 0))) := by
    generalize N = M
    induction M with
    | nil => simp
    | cons o M ih =>
      rw [List.countP_cons, List.countP_cons, List.countP_cons]
      cases h : decide (o = some (n - 1, 0, 1)) <;> cases h' : decide (o = some (n - 1, 1, 0)) <;> simp <;> omega
  have h3 := cl_le_one (p := p) N (n - 1, 0, 1) fun i j => H.once i j _
  have h4 := cl_le_one (p := p) N (n - 1, 1, 0) fun i j => H.once i j _
  exact Nat.le_trans h1 (Nat.le_trans h2 (Nat.add_le_add h3 h4))
theorem countP_get {p : Option Nd → Bool} (hp : p none = false) : ∀ (N N' : List (Option Nd)) (q : Nat) (x : Nd), nd N q = none → (∀ k, nd N' k = if k = q then some x else nd N k) → N.length ≤ N'.length → N'.length ≤ N.length + 1 → N'.countP p = N.countP p + if p (some x) then 1 else 0
  | [], N', q, x, _, h, h1, h2 => by
    match N', h2 with
    | [], _ =>
      have := h q
      simp [nd] at this
    | [o], _ =>
      have h0 := h 0
      by_cases e : q = 0
      · subst e
        rw [if_pos rfl, nd_zero] at h0
        subst h0
        simp [List.countP_cons]
      · have := h q
        rw [if_pos rfl] at this
        have := nd_lt this
        simp at this
        omega
  | o :: N, [], q, x, _, h, h1, _ => by simp at h1
  | o :: N, o' :: N', 0, x, hq, h, h1, h2 => by
    have h0 := h 0
    rw [if_pos rfl, nd_zero] at h0
    rw [nd_zero] at hq
    subst h0 hq
    have e : ∀ (A B : List (Option Nd)), (∀ k, nd A k = nd B k) → B.length ≤ A.length → A.countP p = B.countP p := by
      intro A
      induction A with
      | nil =>
        intro B _ hl
        have := List.eq_nil_of_length_eq_zero (Nat.le_zero.1 hl)
        rw [this]
      | cons a A ih =>
        intro B hk hl
        cases B with
        | nil =>
          have : ∀ y ∈ a :: A, p y = false := fun y hy => by
            obtain ⟨k, hk'⟩ := List.mem_iff_getElem?.1 hy
            have := hk k
            unfold nd at this
            rw [hk'] at this
            simp at this
            rw [this]
            exact hp
          rw [List.countP_eq_zero.2 fun y hy => by rw [this y hy]; simp]
          rfl
        | cons b B =>
          have e0 := hk 0
          rw [nd_zero, nd_zero] at e0
          subst e0
          rw [List.countP_cons, List.countP_cons, ih B (fun k => by have := hk (k + 1); rw [nd_cons, nd_cons] at this; exact this) (by simpa using hl)]
    have := e N' N (fun k => by have := h (k + 1); rw [nd_cons, nd_cons, if_neg (by omega)] at this; exact this) (by simpa using h1)
    rw [List.countP_cons, List.countP_cons, this, hp]
    simp
  | o :: N, o' :: N', q + 1, x, hq, h, h1, h2 => by
    have ih := countP_get hp N N' q x (by rw [nd_cons] at hq; exact hq) (fun k => by
      have := h (k + 1)
      rw [nd_cons, nd_cons] at this
      rw [this]
      by_cases e : k = q
      · rw [if_pos e, if_pos (by omega)]
      · rw [if_neg e, if_neg (by omega)]) (by simpa using h1) (by simpa using h2)
    have h0 := h 0
    rw [if_neg (by omega), nd_zero, nd_zero] at h0
    subst h0
    rw [List.countP_cons, List.countP_cons, ih]
    omega
theorem Plus.cl {N N' : List (Option Nd)} {q : Nat} {x : Nd} (P : Plus N N' q x) (p : Nat → Bool) : clN p N' = clN p N + if p x.1 then 1 else 0 :=
  countP_get rfl N N' q x P.was P.get P.len.1 P.len.2
end Go.Proofs.YtnbnlhpleomaoaaGreat.Ev
/- PRINTED BY PROGRAM: what each of these functions does, computed over heaps by the evaluator, and that its calls do so. Conditions: none. -/
namespace Go.Proofs.YtnbnlhpleomaoaaGreat.Ev
open Go
-- spinney/spinneyplay.Make
namespace F13
def T : Hint := ⟨[], [(1, [[(0, []), (1, []), (2, []), (3, [0, 1]), (4, [0, 1]), (5, []), (6, []), (7, []), (8, []), (9, [])]])]⟩
noncomputable def body : Code := (Tryz.f13.body).getD .skip
def J0 (x0 : Addr) (x1_0 x1_1 x1_2 x1_3 : Int) (h : Heap) (K : KK) : Prop :=
  newK h (.cells #[(.int .u64 x1_0), (.int .u64 x1_1), (.int .u64 x1_2), (.int .u64 x1_3)] 24) (fun b1 h2 => ldI .u64 (rd h2 (Addr.add (Addr.mk b1 0 none) 0)) (fun n3 => ldI .u64 (rd h2 (Addr.add (Addr.mk b1 0 none) 1)) (fun n4 => ldI .u64 (rd h2 (Addr.add (Addr.mk b1 0 none) 2)) (fun n5 => ldI .u64 (rd h2 (Addr.add (Addr.mk b1 0 none) 3)) (fun n6 => CallsH Tryz.prog 36 [(.pointer (some x0))] h2 (fun v7 h8 => ldP (some v7) (fun p9 => ((.pointer (some x0)) = ((.pointer (some x0)) : Value) ∧ ldI .u64 (rd h8 (Addr.add (Addr.mk b1 0 none) 0)) (fun n10 => ldI .u64 (rd h8 (Addr.add (Addr.mk b1 0 none) 1)) (fun n11 => ldI .u64 (rd h8 (Addr.add (Addr.mk b1 0 none) 2)) (fun n12 => ldI .u64 (rd h8 (Addr.add (Addr.mk b1 0 none) 3)) (fun n13 => ((.agg #[(.int .u64 n10), (.int .u64 n11), (.int .u64 n12), (.int .u64 n13)]) = ((.agg #[(.int .u64 n3), (.int .u64 n4), (.int .u64 n5), (.int .u64 n6)]) : Value) ∧ CallsH Tryz.prog 37 [(.pointer p9)] h8 (fun v14 h15 => ldS (some v14) (fun p16 l17 c18 => ((.pointer (some x0)) = ((.pointer (some x0)) : Value) ∧ ldI .u64 (rd h15 (Addr.add (Addr.mk b1 0 none) 0)) (fun n19 => ldI .u64 (rd h15 (Addr.add (Addr.mk b1 0 none) 1)) (fun n20 => ldI .u64 (rd h15 (Addr.add (Addr.mk b1 0 none) 2)) (fun n21 => ldI .u64 (rd h15 (Addr.add (Addr.mk b1 0 none) 3)) (fun n22 => ((.agg #[(.int .u64 n19), (.int .u64 n20), (.int .u64 n21), (.int .u64 n22)]) = ((.agg #[(.int .u64 n3), (.int .u64 n4), (.int .u64 n5), (.int .u64 n6)]) : Value) ∧ CallsH Tryz.prog 35 [(.pointer (some x0)), (.agg #[(.int .u64 n3), (.int .u64 n4), (.int .u64 n5), (.int .u64 n6)]), (.slice p16 l17 c18), (.int .i64 (0 : Int))] h15 (fun v23 h24 => (∃ n25 : Int, ∃ b26 : Bool, v23 = (.tuple #[(.int .u32 n25), (.bool b26)]) ∧ K (.tuple #[(.int .u32 n25), (.bool b26)]) h24)))))))))))))))))))))))
theorem E0 (S : Stop) (x0 : Addr) (x1_0 x1_1 x1_2 x1_3 : Int) (h : Heap) (K : KK) : (E Tryz.prog X T S body (fin Tryz.prog Tryz.f13.results.toList K) (args0 0 [(.pointer (some x0)), (.agg #[(.int .u64 x1_0), (.int .u64 x1_1), (.int .u64 x1_2), (.int .u64 x1_3)])]) h) = J0 x0 x1_0 x1_1 x1_2 x1_3 h K := by kernel_rfl
def w (x0 : Addr) (x1_0 x1_1 x1_2 x1_3 : Int) (h : Heap) (K : KK) : Prop :=
  J0 x0 x1_0 x1_1 x1_2 x1_3 h K
theorem e0 (K : KK) (x0 : Addr) (x1_0 x1_1 x1_2 x1_3 : Int) (h : Heap) : (E Tryz.prog X T S0 body (fin Tryz.prog Tryz.f13.results.toList K) (args0 0 [(.pointer (some x0)), (.agg #[(.int .u64 x1_0), (.int .u64 x1_1), (.int .u64 x1_2), (.int .u64 x1_3)])]) h) = w x0 x1_0 x1_1 x1_2 x1_3 h K := (E0 S0 x0 x1_0 x1_1 x1_2 x1_3 h K).trans (rfl)
theorem hb : Tryz.f13.body = some body := by kernel_rfl
theorem ok : okCode T Tryz.f13.ntmps body = true := by kernel_rfl
theorem spec (x0 : Addr) (x1_0 : Int) (x1_1 : Int) (x1_2 : Int) (x1_3 : Int) (h : Heap) (K : KK) (H : w x0 x1_0 x1_1 x1_2 x1_3 h K) : CallsH Tryz.prog 13 [(.pointer (some x0)), (.agg #[(.int .u64 x1_0), (.int .u64 x1_1), (.int .u64 x1_2), (.int .u64 x1_3)])] h K :=
  calls_of_E (T := T) Xok mix Tryz.func13 hb ok rfl (by rw [e0]; exact H)
end F13
-- spinney/count.eval
namespace F50
def T : Hint := ⟨[(2, [0, 1, 2, 7])], []⟩
noncomputable def body : Code := (Tryz.f50.body).getD .skip
noncomputable def en (S : Stop) (p : List Nat) (κ : XK) : Fr → Heap → Prop := E Tryz.prog X T S (sub body p) κ
noncomputable def ln (S : Stop) (p : List Nat) (κ : XK) (n : Nat) : Fr → Heap → Prop := loopN S (E Tryz.prog X T S (sub body p)) (cutQ T (sub body p)) κ n
def fn (K : KK) : XK := fin Tryz.prog Tryz.f50.results.toList K
noncomputable def c0 (S : Stop) (K : KK) : XK := seqN S (cutQ T (sub body [1, 1, 1])) (en S [1, 1, 1] (fn K)) (fn K)
noncomputable def c1 (S : Stop) (K : KK) : XK := blockN 0 (c0 S K)
noncomputable def c2 (S : Stop) (n2 : Nat) (K : KK) : XK := backN S (cutQ T (sub body [1, 1, 0, 0, 0])) (ln S [1, 1, 0, 0, 0] (c1 S K) n2) (c1 S K)
def f2 (x0 : Addr) (x1 x2 : Int) (x7 : Option Addr) : Fr := [(0, (.pointer (some x0))), (1, (.int .u32 x1)), (2, (.int .u8 x2)), (7, (.pointer x7))]
def J0 (k2 : Addr → Int → Int → (Option Addr) → Heap → Prop) (x0 : Addr) (x1 x2 : Int) (h : Heap) (_K : KK) : Prop :=
  CallsH Tryz.prog 36 [(.pointer (some x0))] h (fun v1 h2 => ldP (some v1) (fun p3 => k2 x0 x1 x2 p3 h2))
theorem E0 (S : Stop) (x0 : Addr) (x1 x2 : Int) (h : Heap) (K : KK) : (E Tryz.prog X T S body (fin Tryz.prog Tryz.f50.results.toList K) (args0 0 [(.pointer (some x0)), (.int .u32 x1), (.int .u8 x2)]) h) = J0 (fun x0 x1 x2 x7 h => S (en S [1, 1] (fn K)) (f2 x0 x1 x2 x7) h) x0 x1 x2 h K := by kernel_rfl
def Jk2 (lp2 : Addr → Int → Int → (Option Addr) → Heap → Prop) (x0 : Addr) (x1 x2 : Int) (x7 : Option Addr) (h : Heap) (_K : KK) : Prop :=
  lp2 x0 x1 x2 x7 h
theorem Ek2 (S : Stop) (x0 : Addr) (x1 x2 : Int) (x7 : Option Addr) (h : Heap) (K : KK) : (en S [1, 1] (fn K) (f2 x0 x1 x2 x7) h) = Jk2 (fun x0 x1 x2 x7 h => ∃ n, S (ln S [1, 1, 0, 0, 0] (c1 S K) n) (f2 x0 x1 x2 x7) h) x0 x1 x2 x7 h K := by kernel_rfl
def JL2 (bk2 : Addr → Int → Int → (Option Addr) → Heap → Prop) (x0 : Addr) (x1 x2 : Int) (x7 : Option Addr) (h : Heap) (K : KK) : Prop :=
  bcase (decide (x1 > (1 : Int))) (CallsH Tryz.prog 46 [(.pointer (some x0)), (.int .u32 x1)] h (fun v1 h2 => ldI .i64 (some v1) (fun n3 => CallsH Tryz.prog 71 [(.pointer x7), (.int .i64 n3)] h2 (fun v4 h5 => ldI .i64 (some v4) (fun n6 => (0 ≤ n6 ∧ bcase ((bitsI .and .u8 (Int.fdiv x2 (2 ^ (min (Int.toNat n6) (IntKind.bits .u8)))) (1 : Int)) == (1 : Int)) (CallsH Tryz.prog 69 [(.pointer (some x0)), (.int .u32 x1)] h5 (fun v7 h8 => ldI .u32 (some v7) (fun n9 => bk2 x0 n9 x2 x7 h8))) (CallsH Tryz.prog 68 [(.pointer (some x0)), (.int .u32 x1)] h5 (fun v10 h11 => ldI .u32 (some v10) (fun n12 => bk2 x0 n12 x2 x7 h11))))))))) (K (.bool (x1 == (1 : Int))) h)
theorem EL2 (S : Stop) (n2 : Nat) (x0 : Addr) (x1 x2 : Int) (x7 : Option Addr) (h : Heap) (K : KK) : (en S [1, 1, 0, 0, 0] (c2 S n2 K) (f2 x0 x1 x2 x7) h) = JL2 (fun x0 x1 x2 x7 h => S (ln S [1, 1, 0, 0, 0] (c1 S K) n2) (f2 x0 x1 x2 x7) h) x0 x1 x2 x7 h K := by kernel_rfl
def wL2 : Nat → Addr → Int → Int → (Option Addr) → Heap → KK → Prop
  | 0, _, _, _, _, _, _ => False
  | n + 1, x0, x1, x2, x7, h, K => JL2 (fun x0 x1 x2 x7 h => wL2 n x0 x1 x2 x7 h K) x0 x1 x2 x7 h K
theorem eL2 (K : KK) : ∀ (n : Nat) (x0 : Addr) (x1 x2 : Int) (x7 : Option Addr) (h : Heap), (ln S0 [1, 1, 0, 0, 0] (c1 S0 K) n (f2 x0 x1 x2 x7) h) = wL2 n x0 x1 x2 x7 h K
  | 0, _, _, _, _, _ => rfl
  | n + 1, x0, x1, x2, x7, h => (EL2 S0 n x0 x1 x2 x7 h K).trans (cg1 (fun q0 => JL2 q0 x0 x1 x2 x7 h K) (by funext x0 x1 x2 x7 h; exact (fun x0 x1 x2 x7 h => eL2 K n x0 x1 x2 x7 h) x0 x1 x2 x7 h))
def wk2 (x0 : Addr) (x1 x2 : Int) (x7 : Option Addr) (h : Heap) (K : KK) : Prop :=
  Jk2 (fun x0 x1 x2 x7 h => ∃ m, wL2 m x0 x1 x2 x7 h K) x0 x1 x2 x7 h K
theorem ek2 (K : KK) (x0 : Addr) (x1 x2 : Int) (x7 : Option Addr) (h : Heap) : (en S0 [1, 1] (fn K) (f2 x0 x1 x2 x7) h) = wk2 x0 x1 x2 x7 h K := (Ek2 S0 x0 x1 x2 x7 h K).trans (cg1 (fun q0 => Jk2 q0 x0 x1 x2 x7 h K) (by funext x0 x1 x2 x7 h; exact ex_congr fun m => eL2 K m x0 x1 x2 x7 h))
def w (x0 : Addr) (x1 x2 : Int) (h : Heap) (K : KK) : Prop :=
  J0 (fun x0 x1 x2 x7 h => wk2 x0 x1 x2 x7 h K) x0 x1 x2 h K
theorem e0 (K : KK) (x0 : Addr) (x1 x2 : Int) (h : Heap) : (E Tryz.prog X T S0 body (fin Tryz.prog Tryz.f50.results.toList K) (args0 0 [(.pointer (some x0)), (.int .u32 x1), (.int .u8 x2)]) h) = w x0 x1 x2 h K := (E0 S0 x0 x1 x2 h K).trans (cg1 (fun q0 => J0 q0 x0 x1 x2 h K) (by funext x0 x1 x2 x7 h; exact ek2 K x0 x1 x2 x7 h))
theorem hb : Tryz.f50.body = some body := by kernel_rfl
theorem ok : okCode T Tryz.f50.ntmps body = true := by kernel_rfl
theorem spec (x0 : Addr) (x1 : Int) (x2 : Int) (h : Heap) (K : KK) (H : w x0 x1 x2 h K) : CallsH Tryz.prog 50 [(.pointer (some x0)), (.int .u32 x1), (.int .u8 x2)] h K :=
  calls_of_E (T := T) Xok mix Tryz.func50 hb ok rfl (by rw [e0]; exact H)
end F50
-- spinney/count.Eval
namespace F80
def T : Hint := ⟨[], []⟩
noncomputable def body : Code := (Tryz.f80.body).getD .skip
def J0 (x0 : Addr) (x1 x2 : Int) (h : Heap) (K : KK) : Prop :=
  CallsH Tryz.prog 21 [(.pointer (some x0)), (.int .u32 x1)] h (fun v1 h2 => ldB (some v1) (fun b3 => bcase (!b3) (K (.tuple #[(.bool false), (.int .i64 (101 : Int))]) h2) (CallsH Tryz.prog 50 [(.pointer (some x0)), (.int .u32 x1), (.int .u8 x2)] h2 (fun v4 h5 => ldB (some v4) (fun b6 => K (.tuple #[(.bool b6), (.int .i64 (0 : Int))]) h5)))))
theorem E0 (S : Stop) (x0 : Addr) (x1 x2 : Int) (h : Heap) (K : KK) : (E Tryz.prog X T S body (fin Tryz.prog Tryz.f80.results.toList K) (args0 0 [(.pointer (some x0)), (.int .u32 x1), (.int .u8 x2)]) h) = J0 x0 x1 x2 h K := by kernel_rfl
def w (x0 : Addr) (x1 x2 : Int) (h : Heap) (K : KK) : Prop :=
  J0 x0 x1 x2 h K
theorem e0 (K : KK) (x0 : Addr) (x1 x2 : Int) (h : Heap) : (E Tryz.prog X T S0 body (fin Tryz.prog Tryz.f80.results.toList K) (args0 0 [(.pointer (some x0)), (.int .u32 x1), (.int .u8 x2)]) h) = w x0 x1 x2 h K := (E0 S0 x0 x1 x2 h K).trans (rfl)
theorem hb : Tryz.f80.body = some body := by kernel_rfl
theorem ok : okCode T Tryz.f80.ntmps body = true := by kernel_rfl
theorem spec (x0 : Addr) (x1 : Int) (x2 : Int) (h : Heap) (K : KK) (H : w x0 x1 x2 h K) : CallsH Tryz.prog 80 [(.pointer (some x0)), (.int .u32 x1), (.int .u8 x2)] h K :=
  calls_of_E (T := T) Xok mix Tryz.func80 hb ok rfl (by rw [e0]; exact H)
end F80
end Go.Proofs.YtnbnlhpleomaoaaGreat.Ev
/- FUNCTIONS MADE IN A STORE (package spinneyplay): made and Make. Conditions: the store stands, the function hangs on its variables alone, there is room. -/
namespace Go.Proofs.YtnbnlhpleomaoaaGreat.Ev
open Go
theorem tb_tobF : ∀ y : Fin 256, ∀ v : Fin 8, ∀ b : Bool, ∀ i : Fin 8, (tob y.1 v.1 b).testBit i.1 = if i.1 = v.1 then b else y.1.testBit i.1 := by decide +kernel
theorem tb_tob {y v i : Nat} (hy : y < 256) (hv : v < 8) (b : Bool) (hi : i < 8) : (tob y v b).testBit i = if i = v then b else y.testBit i := tb_tobF ⟨y, hy⟩ ⟨v, hv⟩ b ⟨i, hi⟩
theorem tobl {y v : Nat} (hy : y < 256) (hv : v < 8) (b : Bool) : tob y v b < 256 := tob_lt ⟨y, hy⟩ ⟨v, hv⟩ b
theorem ext8 {a b : Nat} (ha : a < 256) (hb : b < 256) (h : ∀ i, i < 8 → a.testBit i = b.testBit i) : a = b := by
  apply Nat.eq_of_testBit_eq
  intro i
  by_cases hi : i < 8
  · exact h i hi
  · rw [Nat.testBit_lt_two_pow (Nat.lt_of_lt_of_le ha (by rw [show 256 = 2 ^ 8 by rfl]; exact Nat.pow_le_pow_right (by omega) (by omega))), Nat.testBit_lt_two_pow (Nat.lt_of_lt_of_le hb (by rw [show 256 = 2 ^ 8 by rfl]; exact Nat.pow_le_pow_right (by omega) (by omega)))]
/-- p does not hang on v -/
def Indep (p : Nat → Bool) (v : Nat) : Prop := ∀ y, y < 256 → p (tob y v true) = p (tob y v false)
theorem tob_self {y v : Nat} (hy : y < 256) (hv : v < 8) : tob y v (y.testBit v) = y := by
  refine ext8 (tobl hy hv _) hy fun i hi => ?_
  rw [tb_tob hy hv _ hi]
  split
  · next e => rw [e]
  · rfl
theorem Indep.tob {p : Nat → Bool} {v y : Nat} (H : Indep p v) (hy : y < 256) (hv : v < 8) (b : Bool) : p (tob y v b) = p y := by
  have h := H y hy
  have e := tob_self hy hv
  cases hb : y.testBit v <;> rw [hb] at e <;> cases b <;> first | rw [e] | (rw [h, e]) | (rw [← h, e])
theorem const_of_indep {p : Nat → Bool} (H : ∀ v, v < 8 → Indep p v) {y : Nat} (hy : y < 256) : p y = p 0 := by
  have key : ∀ k, k ≤ 8 → ∀ y, y < 256 → (∀ i, k ≤ i → i < 8 → y.testBit i = false) → p y = p 0 := by
    intro k
    induction k with
    | zero =>
      intro _ y hy h
      rw [ext8 hy (by omega : 0 < 256) fun i hi => by rw [h i (by omega) hi]; simp]
    | succ k ih =>
      intro hk y hy h
      rw [← (H k (by omega)).tob hy (by omega) false]
      refine ih (by omega) _ (tobl hy (by omega) _) fun i h1 h2 => ?_
      rw [tb_tob hy (by omega) _ h2]
      split
      · rfl
      · exact h i (by omega) h2
  exact key 8 (by omega) y hy fun i h1 h2 => by omega
theorem fixA_fb {g : Nat → Nat} (hg : WOk g) {v y : Nat} {b : Bool} (hv : v < 8) (hy : y < 256) : fb (fixA (v : Int) b g) y = fb g (tob y v b) := by
  unfold fixA
  rw [if_pos (by omega), Int.toNat_natCast]
  exact fixG_fb hg hv hy
theorem fixA_ok {g : Nat → Nat} (hg : WOk g) {v : Nat} {b : Bool} (hv : v < 8) : WOk (fixA (v : Int) b g) := by
  unfold fixA
  rw [if_pos (by omega), Int.toNat_natCast]
  exact fixG_ok hg hv
theorem indep_fix_same {g : Nat → Nat} (hg : WOk g) {v : Nat} {b : Bool} (hv : v < 8) : Indep (fb (fixA (v : Int) b g)) v := fun y hy => by
  rw [fixA_fb hg hv (tobl hy hv _), fixA_fb hg hv (tobl hy hv _)]
  congr 1
  refine ext8 (tobl (tobl hy hv _) hv _) (tobl (tobl hy hv _) hv _) fun i hi => ?_
  rw [tb_tob (tobl hy hv _) hv _ hi, tb_tob (tobl hy hv _) hv _ hi, tb_tob hy hv _ hi, tb_tob hy hv _ hi]
  split <;> rfl
theorem indep_fix {g : Nat → Nat} (hg : WOk g) {u v : Nat} {b : Bool} (hv : v < 8) (hu : u < 8) (H : Indep (fb g) u) : Indep (fb (fixA (v : Int) b g)) u := by
  by_cases e : u = v
  · subst e
    exact indep_fix_same hg hu
  intro y hy
  rw [fixA_fb hg hv (tobl hy hu _), fixA_fb hg hv (tobl hy hu _)]
  have c : ∀ c, tob (tob y u c) v b = tob (tob y v b) u c := fun c => by
    refine ext8 (tobl (tobl hy hu _) hv _) (tobl (tobl hy hv _) hu _) fun i hi => ?_
    rw [tb_tob (tobl hy hu _) hv _ hi, tb_tob (tobl hy hv _) hu _ hi, tb_tob hy hu _ hi, tb_tob hy hv _ hi]
    by_cases h1 : i = v
    · rw [if_pos h1, if_neg (by omega), if_pos h1]
    · rw [if_neg h1, if_neg h1]
  rw [c, c]
  exact H _ (tobl hy hv _)
theorem shannon {g : Nat → Nat} (hg : WOk g) {v y : Nat} (hv : v < 8) (hy : y < 256) : fb g y = if y.testBit v then fb (fixA (v : Int) true g) y else fb (fixA (v : Int) false g) y := by
  have e := tob_self hy hv
  split
  · next h => rw [h] at e; rw [fixA_fb hg hv hy, e]
  · next h =>
    have h : y.testBit v = false := by simpa using h
    rw [h] at e
    rw [fixA_fb hg hv hy, e]
theorem eq4 {g c : Nat → Nat} (hg : WOk g) (hc : WOk c) : (((g 0 : Int) == (c 0 : Int)) && (((g 1 : Int) == (c 1 : Int)) && (((g 2 : Int) == (c 2 : Int)) && (((g 3 : Int) == (c 3 : Int)) && true)))) = true ↔ ∀ y, y < 256 → fb g y = fb c y := by
  simp only [Bool.and_eq_true, beq_iff_eq, and_true]
  constructor
  · rintro ⟨h0, h1, h2, h3⟩ y hy
    unfold fb
    have : y / 64 = 0 ∨ y / 64 = 1 ∨ y / 64 = 2 ∨ y / 64 = 3 := by omega
    rcases this with e | e | e | e <;> rw [e] <;> congr 1 <;> omega
  · intro h
    have := fb_ext hg hc h
    exact ⟨by rw [this 0 (by omega)], by rw [this 1 (by omega)], by rw [this 2 (by omega)], by rw [this 3 (by omega)]⟩
def lst (n : Nat) (l : Nat) : Bool := decide (l + 1 < n)
def bdn (n k : Nat) : Nat := 2 ^ (n - 1 - k)
theorem bdn_two {n k : Nat} (h : k + 1 < n) : bdn n k = 2 * bdn n (k + 1) := by
  unfold bdn
  rw [show n - 1 - k = (n - 1 - (k + 1)) + 1 by omega, Nat.pow_succ]
  omega
theorem bdn_one {n k : Nat} (h : n ≤ k + 1) : bdn n k = 1 := by
  unfold bdn
  rw [show n - 1 - k = 0 by omega]
theorem bdn_pos (n k : Nat) : 1 ≤ bdn n k := Nat.two_pow_pos _
theorem cnt_bound {n : Nat} {N : List (Option Nd)} (H : NOk n N) : cntN N ≤ clN (lst n) N + 2 := by
  rw [cl_split (lst n)]
  have := cl_last H (fun l => !lst n l) fun l h1 h2 => by
    simp [lst] at h2
    omega
  omega
set_option maxRecDepth 100000 in
theorem made35 {s vb vc : Nat} {n : Nat} : ∀ (d k : Nat), k + d = n → ∀ {h : Heap} {L : List Nat} {X : SX} {g : Nat → Nat} {K : Value → Heap → Prop}, X.n = n → (∀ j, j < n → X.f j < 8) → Sto h s L X → At h vb (vrow n X.f) → vb ∉ L → WOk g →
    (∀ v, v < 8 → (∀ j, k ≤ j → j < n → X.f j ≠ v) → Indep (fb g) v) → clN (lst n) X.N + bdn n k + 2 ≤ X.room →
    (∀ h' L' N' r, Ex X.N N' → isN N' r → k ≤ lvl n N' r → (∀ x, x < 256 → sm n X.f N' r x = fb g x) → clN (lst n) N' + 1 ≤ clN (lst n) X.N + bdn n k → Sto h' s L' { X with N := N' } → Only L h h' → Fresh L L' h → K (.tuple #[.int .u32 (r : Int), .bool true]) h') →
    CallsH Tryz.prog 35 [.pointer (some ⟨s, 0, none⟩), aggW g, .slice (some ⟨vb, 0, none⟩) n vc, .int .i64 (k : Int)] h K := by
  intro d
  induction d with
  | zero =>
    intro k hk h L X g K en hf H V hvb hg hI hroom hK
    have hcon : ∀ y, y < 256 → fb g y = fb g 0 := fun y hy => const_of_indep (fun v hv => hI v hv fun j h1 h2 => by omega) hy
    refine F35.spec _ _ _ _ _ _ _ _ _ h K ?_
    unfold F35.w F35.J0
    refine newK_at fun h1 A1 O1 z1 => ?_
    replace A1 : At h1 h.size (wrow g) := A1
    have fin : ∀ (r : Nat) h', r < 2 → (∀ x, x < 256 → (r == 1) = fb g x) → Only [] h h' → K (.tuple #[.int .u32 (r : Int), .bool true]) h' := fun r h' hr he O => by
      have hn := H.ok.1
      refine hK h' L X.N r (Ex.refl _) (.inl hr) ?_ (fun x hx => by rw [sm_const hr]; exact he x hx) (by have := bdn_pos n k; omega) (H.only0 O) (O.mono (by simp)) (Fresh.refl _ _)
      unfold lvl
      rw [if_pos hr]
      omega
    refine rd4 A1 (const55 fun h2 c hc hcb O2 => ⟨_, _, _, _, rfl, ?_⟩)
    have A2 := A1.only O2 (by simp)
    refine rd4 A2 ⟨rfl, ?_⟩
    refine bcase_of (fun e => ⟨rfl, rd4 A2 (const55 fun h3 c' hc' hcb' O3 => ⟨_, _, _, _, rfl, rd4 (A2.only O3 (by simp)) ⟨rfl, ?_⟩⟩)⟩) fun e => rd4 A2 (const55 fun h3 c' hc' hcb' O3 => ⟨_, _, _, _, rfl, rd4 (A2.only O3 (by simp)) ⟨rfl, ?_⟩⟩)
    · have e := (eq4 hg hc).1 e
      refine bcase_of (fun e' => ?_) fun e' => ?_
      · have e' := (eq4 hg hc').1 e'
        have := (e 0 (by omega)).symm.trans (e' 0 (by omega))
        rw [hcb 0 (by omega), hcb' 0 (by omega)] at this
        cases this
      · exact fin 0 h3 (by omega) (fun x hx => by rw [e x hx, hcb x hx]; rfl) ((O1.trans O2 (by simp)).trans O3 (by simp))
    · have hne : fb g 0 = true := by
        cases h0 : fb g 0 with
        | true => rfl
        | false =>
          have := (eq4 hg hc).2 fun y hy => by rw [hcon y hy, h0, hcb y hy]
          rw [this] at e
          cases e
      refine bcase_of (fun e' => ?_) fun e' => ?_
      · have A3 := A2.only O3 (by simp)
        refine rd4 A3 (const55 fun h4 c4 hc4 hcb4 O4 => ⟨_, _, _, _, rfl, rd4 (A3.only O4 (by simp)) ⟨rfl, ?_⟩⟩)
        have := (eq4 hg hc4).2 fun y hy => by rw [hcon y hy, hne, hcb4 y hy]
        rw [this, bcase_true]
        exact fin 1 h4 (by omega) (fun x hx => by rw [hcon x hx, hne]; rfl) (((O1.trans O2 (by simp)).trans O3 (by simp)).trans O4 (by simp))
      · have := (eq4 hg hc').2 fun y hy => by rw [hcon y hy, hne, hcb' y hy]
        rw [this] at e'
        cases e'
  | succ d ih =>
    intro k hk h L X g K en hf H V hvb hg hI hroom hK
    have hn8 := H.ok.2.2.1
    refine F35.spec _ _ _ _ _ _ _ _ _ h K ?_
    unfold F35.w F35.J0
    refine newK_at fun h1 A1 O1 z1 => ?_
    replace A1 : At h1 h.size (wrow g) := A1
    have fin : ∀ (r : Nat) h', r < 2 → (∀ x, x < 256 → (r == 1) = fb g x) → Only [] h h' → K (.tuple #[.int .u32 (r : Int), .bool true]) h' := fun r h' hr he O => by
      have hn := H.ok.1
      refine hK h' L X.N r (Ex.refl _) (.inl hr) ?_ (fun x hx => by rw [sm_const hr]; exact he x hx) (by have := bdn_pos n k; omega) (H.only0 O) (O.mono (by simp)) (Fresh.refl _ _)
      unfold lvl
      rw [if_pos hr]
      omega
    refine rd4 A1 (const55 fun h2 c hc hcb O2 => ⟨_, _, _, _, rfl, ?_⟩)
    have A2 := A1.only O2 (by simp)
    refine rd4 A2 ⟨rfl, ?_⟩
    refine bcase_of (fun e => ⟨rfl, rd4 A2 (const55 fun h3 c' hc' hcb' O3 => ⟨_, _, _, _, rfl, rd4 (A2.only O3 (by simp)) ⟨rfl, ?_⟩⟩)⟩) fun e => rd4 A2 (const55 fun h3 c' hc' hcb' O3 => ⟨_, _, _, _, rfl, rd4 (A2.only O3 (by simp)) ⟨rfl, ?_⟩⟩)
    · have e := (eq4 hg hc).1 e
      refine bcase_of (fun e' => ?_) fun e' => ?_
      · have e' := (eq4 hg hc').1 e'
        have := (e 0 (by omega)).symm.trans (e' 0 (by omega))
        rw [hcb 0 (by omega), hcb' 0 (by omega)] at this
        cases this
      · exact fin 0 h3 (by omega) (fun x hx => by rw [e x hx, hcb x hx]; rfl) ((O1.trans O2 (by simp)).trans O3 (by simp))
    have A3 := A2.only O3 (by simp)
    have O13 := (O1.trans O2 (by simp)).trans O3 (by simp)
    refine bcase_of (fun e' => ?_) fun e' => ?_
    · have e' := (eq4 hg hc').1 e'
      refine rd4 A3 (const55 fun h4 c4 hc4 hcb4 O4 => ⟨_, _, _, _, rfl, rd4 (A3.only O4 (by simp)) ⟨rfl, ?_⟩⟩)
      have := (eq4 hg hc4).2 fun y hy => by rw [e' y hy, hcb' y hy, hcb4 y hy]
      rw [this, bcase_true]
      exact fin 1 h4 (by omega) (fun x hx => by rw [e' x hx, hcb' x hx]; rfl) (O13.trans O4 (by simp))
    -- a variable is fixed
    have hv := hf k (by omega)
    refine made_fix A3 hg (V.only O13 (by simp)) (by omega) rfl fun h4 bx by_ gbx gby Bx By O4 => ?_
    unfold F35.wk8 F35.Jk8
    have gx := fixA_ok (b := false) hg hv
    have gy := fixA_ok (b := true) hg hv
    have O14 := O13.trans O4 (by simp)
    have H4 := H.only0 O14
    have V4 := V.only O14 (by simp)
    have w1 : IntKind.wrap .i64 ((k : Int) + 1) = ((k + 1 : Nat) : Int) := by rw [wrap_i64 (by omega) (by omega)]; omega
    have IX : ∀ b, ∀ v, v < 8 → (∀ j, k + 1 ≤ j → j < n → X.f j ≠ v) → Indep (fb (fixA (X.f k : Int) b g)) v := fun b v hv8 hj => by
      by_cases e : X.f k = v
      · subst e
        exact indep_fix_same hg hv
      · refine indep_fix hg hv hv8 (hI v hv8 fun j h1 h2 => ?_)
        by_cases ej : j = k
        · subst ej; exact e
        · exact hj j (by omega) h2
    have b1 := bdn_pos n (k + 1)
    have broom : bdn n (k + 1) ≤ bdn n k := by
      by_cases hk1 : k + 1 < n
      · rw [bdn_two hk1]; omega
      · rw [bdn_one (by omega : n ≤ k + 1 + 1)]; exact bdn_pos n k
    refine rd4 Bx (rd4 By (bcase_of (fun eq => ?_) fun eq => ?_))
    · have eq := (eq4 gx gy).1 eq
      refine rd4 Bx ?_
      rw [w1]
      refine ih (k + 1) (by omega) en hf H4 V4 hvb gx (IX false) (by omega) fun h5 L5 N5 r E5 hr hl hs hc5 S5 O5 F5 => ⟨_, _, rfl, ?_⟩
      refine hK h5 L5 N5 r E5 hr (by omega) (fun x hx => ?_) (by omega) S5 ((O14.mono (by simp)).trans O5 fun b hb _ => hb) fun b hb => ?_
      · rw [hs x hx, shannon hg hv hx, ← eq x hx]
        simp
      · rcases F5 b hb with h | h
        · exact .inl h
        · exact .inr (by have := O14.size; omega)
    · refine rd4 Bx ?_
      rw [w1]
      refine ih (k + 1) (by omega) en hf H4 V4 hvb gx (IX false) (by omega) fun h5 L5 N5 a E5 ha hl hs hc5 S5 O5 F5 => ⟨_, _, rfl, ?_⟩
      have vb4 : vb < h4.size := V4.lt
      have hbL : ∀ b, b ∉ L → b < h4.size → b ∉ L5 := fun b h1 h2 h3 => by
        rcases F5 b h3 with h | h
        · exact h1 h
        · omega
      have byL : by_ ∉ L := fun hm => by
        have := H.lt _ hm
        have := O13.size
        omega
      have By5 := By.only O5 byL
      have V5 := V4.only O5 hvb
      refine rd4 By5 ?_
      have bb : bdn n (k + 1) + bdn n (k + 1) ≤ bdn n k + 1 := by
        by_cases hk1 : k + 1 < n
        · rw [bdn_two hk1]; omega
        · rw [bdn_one (by omega : n ≤ k + 1 + 1)]; have := bdn_pos n k; omega
      refine ih (k + 1) (by omega) (X := { X with N := N5 }) en hf S5 V5 (hbL _ hvb vb4) gy (IX true) (by dsimp only; omega) fun h6 L6 N6 b E6 hb hlb hsb hc6 S6 O6 F6 => ⟨_, _, rfl, ?_⟩
      rw [Bool.not_true, bcase_false, bcase_false]
      dsimp only at E6 hsb hc6 S6
      have hN5 := S5.ok
      have hN6 := S6.ok
      dsimp only at hN5 hN6
      rw [en] at hN5 hN6
      have ha6 := E6.isN ha
      have la6 : k < lvl n N6 a := by rw [E6.lvl ha]; omega
      have sm5 : ∀ x, x < 256 → sm n X.f N6 a x = fb (fixA (X.f k : Int) false g) x := fun x hx => by rw [E6.sm hN5.1 ha, hs x hx]
      refine sto_mk S6 (l := k) (by dsimp only; omega) ha6 hb (by dsimp only; rw [en]; exact la6) (by dsimp only; rw [en]; omega) fun h7 L7 N7 r e R S7 O7 F7 => ⟨_, _, rfl, ?_⟩
      dsimp only at R S7
      have hN7 := S7.ok
      dsimp only at hN7
      rw [en] at hN7
      have OO : Only L h h7 := (((O14.mono (by simp)).trans O5 fun b hb _ => hb).app O6 (fun b hb => by
        rcases F5 b hb with h | h
        · exact .inl h
        · exact .inr (by have := O14.size; omega))).app O7 fun b hb => by
          rcases F6 b hb with h | h
          · rcases F5 b h with h | h
            · exact .inl h
            · exact .inr (by have := O14.size; omega)
          · exact .inr (by have := O14.size; have := O5.size; omega)
      have FF : Fresh L L7 h := fun b hb => by
        rcases F7 b hb with h | h
        · rcases F6 b h with h | h
          · rcases F5 b h with h | h
            · exact .inl h
            · exact .inr (by have := O14.size; omega)
          · exact .inr (by have := O14.size; have := O5.size; omega)
        · exact .inr (by have := O14.size; have := O5.size; have := O6.size; omega)
      have he : e = 0 := by
        rcases R with ⟨-, -, e, -⟩ | ⟨-, _, -, -, e, -⟩ | ⟨h1, h2, h3, -⟩ | ⟨-, -, -, e, -⟩
        · exact e
        · exact e
        · exfalso
          have c1 := cnt_bound hN6.1
          by_cases hk1 : k + 1 < n
          · rw [bdn_two hk1] at hroom
            omega
          · rw [bdn_one (by omega : n ≤ k + 1)] at hroom
            rw [bdn_one (by omega : n ≤ k + 1 + 1)] at hc5 hc6
            omega
        · exact e
      subst he
      obtain ⟨m1, m2, m3, m4⟩ := mk_node (f := X.f) hN6.1 hN7.1 ha6 hb la6 R
      have hcl : clN (lst n) N7 ≤ clN (lst n) N6 + if lst n k then 1 else 0 := by
        rcases R with ⟨-, -, -, e⟩ | ⟨-, _, -, -, -, e⟩ | ⟨-, -, -, -, e, -⟩ | ⟨-, -, -, -, q, -, P⟩
        · rw [e]; omega
        · rw [e]; omega
        · omega
        · rw [P.cl (lst n)]; exact Nat.le_refl _
      refine hK h7 L7 N7 r ((E5.trans E6).trans m1) m2 m3 (fun x hx => ?_) ?_ S7 OO FF
      · rw [m4 x, shannon hg hv hx, hsb x hx, sm5 x hx]
      · by_cases hk1 : k + 1 < n
        · have : lst n k = true := by unfold lst; simp; omega
          rw [this] at hcl
          rw [bdn_two hk1]
          simp at hcl
          omega
        · have : lst n k = false := by unfold lst; simp; omega
          rw [this] at hcl
          have : bdn n k = 1 := bdn_one (by omega)
          have : bdn n (k + 1) = 1 := bdn_one (by omega)
          simp at hcl
          omega
end Go.Proofs.YtnbnlhpleomaoaaGreat.Ev
/- FUNCTIONS MADE IN A STORE (package spinneyplay): Make; a node's value (count.eval, count.Eval). Conditions: the store stands, there is room. -/
namespace Go.Proofs.YtnbnlhpleomaoaaGreat.Ev
open Go
theorem make13 {h : Heap} {s : Nat} {L : List Nat} {X : SX} {g : Nat → Nat} {K : Value → Heap → Prop} (H : Sto h s L X) (hf : ∀ j, j < X.n → X.f j < 8) (hg : WOk g) (hI : ∀ v, v < 8 → (∀ j, j < X.n → X.f j ≠ v) → Indep (fb g) v)
    (hroom : clN (lst X.n) X.N + bdn X.n 0 + 2 ≤ X.room)
    (hK : ∀ h' L' N' r, Ex X.N N' → isN N' r → (∀ x, x < 256 → sm X.n X.f N' r x = fb g x) → clN (lst X.n) N' + 1 ≤ clN (lst X.n) X.N + bdn X.n 0 → Sto h' s L' { X with N := N' } → Only L h h' → Fresh L L' h → K (.tuple #[.int .u32 (r : Int), .bool true]) h') :
    CallsH Tryz.prog 13 [.pointer (some ⟨s, 0, none⟩), aggW g] h K := by
  refine F13.spec _ _ _ _ _ h K ?_
  unfold F13.w F13.J0
  refine newK_at fun h1 A1 O1 z1 => ?_
  replace A1 : At h1 h.size (wrow g) := A1
  refine rd4 A1 ?_
  refine sto_order (H.only0 O1) fun c h2 C2 g2 O2 => ldP_of rfl ⟨rfl, ?_⟩
  have A2 := A1.only O2 (by simp)
  refine rd4 A2 ⟨rfl, ?_⟩
  refine ord_all C2 H.ok.2.2.1 fun x h3 V3 g3 O3 => ldS_of rfl ⟨rfl, ?_⟩
  have A3 := A2.only O3 (by simp)
  refine rd4 A3 ⟨rfl, ?_⟩
  have O13 := (O1.trans O2 (by simp)).trans O3 (by simp)
  have z12 := O1.size
  have z23 := O2.size
  have hx : x ∉ L := fun hm => by
    have := H.lt _ hm
    omega
  refine made35 (X.n - 0) 0 (by omega) rfl hf (H.only0 O13) V3 hx hg (fun v hv hj => hI v hv fun j hj' => hj j (by omega) hj') hroom fun h4 L4 N4 r E4 hr _ hs hc S4 O4 F4 => ⟨_, _, rfl, hK h4 L4 N4 r E4 hr hs hc S4 ((O13.mono (by simp)).trans O4 fun b hb _ => hb) fun b hb => ?_⟩
  rcases F4 b hb with h | h
  · exact .inl h
  · exact .inr (by have := O13.size; omega)
theorem bit_u8F : ∀ y : Fin 256, ∀ v : Fin 8, (bitsI .and .u8 (Int.fdiv ((y.1 : Nat) : Int) (2 ^ (min (Int.toNat ((v.1 : Nat) : Int)) (IntKind.bits .u8)))) 1 == 1) = y.1.testBit v.1 := by decide +kernel
theorem eval50 {h : Heap} {s a x : Nat} {L : List Nat} {X : SX} {K : Value → Heap → Prop} (H : Sto h s L X) (hf : ∀ j, j < X.n → X.f j < 8) (ha : isN X.N a) (hx : x < 256) (hK : ∀ h', Only [] h h' → K (.bool (sm X.n X.f X.N a x)) h') :
    CallsH Tryz.prog 50 [.pointer (some ⟨s, 0, none⟩), .int .u32 (a : Int), .int .u8 (x : Int)] h K := by
  refine F50.spec _ _ _ h K ?_
  unfold F50.w F50.J0
  refine sto_order H fun c h1 C1 g1 O1 => ldP_of rfl ?_
  have H1 := H.only0 O1
  have ok := H.ok
  unfold F50.wk2 F50.Jk2
  have main : ∀ (d b : Nat), X.n - lvl X.n X.N b ≤ d → isN X.N b → sm X.n X.f X.N b x = sm X.n X.f X.N a x → F50.wL2 (d + 1) ⟨s, 0, none⟩ (b : Int) (x : Int) (some ⟨c, 0, none⟩) h1 K := by
    intro d
    induction d with
    | zero =>
      intro b hd hb he
      have h2 : b < 2 := by
        apply Classical.byContradiction
        intro hn
        have := (ok.1.at hb (by omega)).1
        omega
      unfold F50.wL2 F50.JL2
      rw [decide_eq_false (by omega), bcase_false]
      rw [sm_const h2] at he
      have e : (((b : Nat) : Int) == 1) = (b == 1) := by
        have : b = 0 ∨ b = 1 := by omega
        rcases this with e | e <;> subst e <;> rfl
      rw [e, he]
      exact hK h1 O1
    | succ d ih =>
      intro b hd hb he
      unfold F50.wL2 F50.JL2
      by_cases h2 : b < 2
      · rw [decide_eq_false (by omega), bcase_false]
        rw [sm_const h2] at he
        have e : (((b : Nat) : Int) == 1) = (b == 1) := by
          have : b = 0 ∨ b = 1 := by omega
          rcases this with e | e <;> subst e <;> rfl
        rw [e, he]
        exact hK h1 O1
      · rw [decide_eq_true (by omega), bcase_true]
        obtain ⟨n1, n2, n3, n4, n5, n6⟩ := ok.1.at hb (by omega)
        refine sto_level H1 hb (ldI_of rfl (ord_var C1 ok.2.2.1 n1 (ldI_of rfl ⟨by omega, ?_⟩)))
        have e := bit_u8F ⟨x, hx⟩ ⟨X.f (lvl X.n X.N b), hf _ n1⟩
        dsimp only at e
        rw [e]
        rw [sm_node ok.1 hb (by omega)] at he
        refine bcase_of (fun hb' => ?_) fun hb' => ?_
        · rw [if_pos hb'] at he
          exact sto_high H1 hb (ldI_of rfl (ih _ (by omega) n3 he))
        · rw [if_neg (by rw [hb']; simp)] at he
          exact sto_low H1 hb (ldI_of rfl (ih _ (by omega) n2 he))
  exact ⟨_, main _ a (Nat.le_refl _) ha rfl⟩
theorem eval80 {h : Heap} {s a x : Nat} {L : List Nat} {X : SX} {K : Value → Heap → Prop} (H : Sto h s L X) (hf : ∀ j, j < X.n → X.f j < 8) (ha : isN X.N a) (hx : x < 256) (hK : ∀ h', Only [] h h' → K (.tuple #[.bool (sm X.n X.f X.N a x), .int .i64 0]) h') :
    CallsH Tryz.prog 80 [.pointer (some ⟨s, 0, none⟩), .int .u32 (a : Int), .int .u8 (x : Int)] h K := by
  refine F80.spec _ _ _ h K ?_
  unfold F80.w F80.J0
  refine sto_is1 H ha (ldB_of rfl ?_)
  rw [Bool.not_true, bcase_false]
  exact eval50 H hf ha hx fun h' O => ldB_of rfl (hK h' O)
end Go.Proofs.YtnbnlhpleomaoaaGreat.Ev
/- PRINTED BY PROGRAM: what each of these functions does, computed over heaps by the evaluator, and that its calls do so. Conditions: none. -/
namespace Go.Proofs.YtnbnlhpleomaoaaGreat.Ev
open Go
-- (spinney/weigh.looker).holds
namespace F62
def T : Hint := ⟨[], []⟩
noncomputable def body : Code := (Tryz.f62.body).getD .skip
def J0 (x0_0 : Option Addr) (x0_1 x1 : Int) (h : Heap) (K : KK) : Prop :=
  newK h (.cells #[(.pointer x0_0), (.int .u32 x0_1)] 137) (fun b1 h2 => ldP (rd h2 (Addr.add (Addr.mk b1 0 none) 0)) (fun p3 => ldI .u32 (rd h2 (Addr.add (Addr.mk b1 0 none) 1)) (fun n4 => CallsH Tryz.prog 80 [(.pointer p3), (.int .u32 n4), (.int .u8 x1)] h2 (fun v5 h6 => (∃ b7 : Bool, ∃ n8 : Int, v5 = (.tuple #[(.bool b7), (.int .i64 n8)]) ∧ K (.bool b7) h6)))))
theorem E0 (S : Stop) (x0_0 : Option Addr) (x0_1 x1 : Int) (h : Heap) (K : KK) : (E Tryz.prog X T S body (fin Tryz.prog Tryz.f62.results.toList K) (args0 0 [(.agg #[(.pointer x0_0), (.int .u32 x0_1)]), (.int .u8 x1)]) h) = J0 x0_0 x0_1 x1 h K := by kernel_rfl
def w (x0_0 : Option Addr) (x0_1 x1 : Int) (h : Heap) (K : KK) : Prop :=
  J0 x0_0 x0_1 x1 h K
theorem e0 (K : KK) (x0_0 : Option Addr) (x0_1 x1 : Int) (h : Heap) : (E Tryz.prog X T S0 body (fin Tryz.prog Tryz.f62.results.toList K) (args0 0 [(.agg #[(.pointer x0_0), (.int .u32 x0_1)]), (.int .u8 x1)]) h) = w x0_0 x0_1 x1 h K := (E0 S0 x0_0 x0_1 x1 h K).trans (rfl)
theorem hb : Tryz.f62.body = some body := by kernel_rfl
theorem ok : okCode T Tryz.f62.ntmps body = true := by kernel_rfl
theorem spec (x0_0 : Option Addr) (x0_1 : Int) (x1 : Int) (h : Heap) (K : KK) (H : w x0_0 x0_1 x1 h K) : CallsH Tryz.prog 62 [(.agg #[(.pointer x0_0), (.int .u32 x0_1)]), (.int .u8 x1)] h K :=
  calls_of_E (T := T) Xok mix Tryz.func62 hb ok rfl (by rw [e0]; exact H)
end F62
-- spinney/weigh.costs
namespace F61
def T : Hint := ⟨[(3, [1, 2, 7, 14, 15]), (8, [1, 2, 7, 8, 9, 14, 15, 23, 24, 25]), (12, [1, 2, 7, 8, 9, 14, 15])], []⟩
noncomputable def body : Code := (Tryz.f61.body).getD .skip
noncomputable def en (S : Stop) (p : List Nat) (κ : XK) : Fr → Heap → Prop := E Tryz.prog X T S (sub body p) κ
noncomputable def ln (S : Stop) (p : List Nat) (κ : XK) (n : Nat) : Fr → Heap → Prop := loopN S (E Tryz.prog X T S (sub body p)) (cutQ T (sub body p)) κ n
def fn (K : KK) : XK := fin Tryz.prog Tryz.f61.results.toList K
noncomputable def c0 (S : Stop) (K : KK) : XK := seqN S (cutQ T (sub body [1, 1, 1])) (en S [1, 1, 1] (fn K)) (fn K)
noncomputable def c1 (S : Stop) (K : KK) : XK := blockN 0 (c0 S K)
noncomputable def c2 (S : Stop) (n3 : Nat) (K : KK) : XK := backN S (cutQ T (sub body [1, 1, 0, 1, 0, 0])) (ln S [1, 1, 0, 1, 0, 0] (c1 S K) n3) (c1 S K)
noncomputable def c3 (S : Stop) (n3 : Nat) (K : KK) : XK := seqN S (cutQ T (sub body [1, 1, 0, 1, 0, 0, 1, 1, 1])) (en S [1, 1, 0, 1, 0, 0, 1, 1, 1] (c2 S n3 K)) (c2 S n3 K)
noncomputable def c4 (S : Stop) (n3 : Nat) (K : KK) : XK := blockN 1 (c3 S n3 K)
noncomputable def c5 (S : Stop) (n3 : Nat) (K : KK) : XK := seqN S (cutQ T (sub body [1, 1, 0, 1, 0, 0, 1, 1, 0, 0, 1, 1, 1, 1])) (en S [1, 1, 0, 1, 0, 0, 1, 1, 0, 0, 1, 1, 1, 1] (c4 S n3 K)) (c4 S n3 K)
noncomputable def c6 (S : Stop) (n3 : Nat) (K : KK) : XK := blockN 2 (c5 S n3 K)
noncomputable def c7 (S : Stop) (n3 : Nat) (n8 : Nat) (K : KK) : XK := backN S (cutQ T (sub body [1, 1, 0, 1, 0, 0, 1, 1, 0, 0, 1, 1, 1, 0, 1, 0, 0])) (ln S [1, 1, 0, 1, 0, 0, 1, 1, 0, 0, 1, 1, 1, 0, 1, 0, 0] (c6 S n3 K) n8) (c6 S n3 K)
def f3 (x1 : Value) (x2p : Option Addr) (x2l x2c : Nat) (x7 : Option Nat) (x14 x15 : Int) : Fr := [(1, x1), (2, (.slice x2p x2l x2c)), (7, (.map x7)), (14, (.int .i64 x14)), (15, (.int .i64 x15))]
def f8 (x1 : Value) (x2p : Option Addr) (x2l x2c : Nat) (x7 : Option Nat) (x8 x9 x14 x15 : Int) (x23p : Option Addr) (x23l x23c : Nat) (x24 x25 : Int) : Fr := [(1, x1), (2, (.slice x2p x2l x2c)), (7, (.map x7)), (8, (.int .i64 x8)), (9, (.int .i64 x9)), (14, (.int .i64 x14)), (15, (.int .i64 x15)), (23, (.slice x23p x23l x23c)), (24, (.int .i64 x24)), (25, (.int .i64 x25))]
def f12 (x1 : Value) (x2p : Option Addr) (x2l x2c : Nat) (x7 : Option Nat) (x8 x9 x14 x15 : Int) : Fr := [(1, x1), (2, (.slice x2p x2l x2c)), (7, (.map x7)), (8, (.int .i64 x8)), (9, (.int .i64 x9)), (14, (.int .i64 x14)), (15, (.int .i64 x15))]
def J0 (k3 : Value → (Option Addr) → Nat → Nat → (Option Nat) → Int → Int → Heap → Prop) (x0 : Int) (x1 : Value) (x2p : Option Addr) (x2l x2c : Nat) (h : Heap) (_K : KK) : Prop :=
  newK h (.map #[] 0) (fun b1 h2 => (0 ≤ x0 ∧ k3 x1 x2p x2l x2c (some b1) (IntKind.wrap .i64 ((1 : Int) * 2 ^ (min (Int.toNat x0) (IntKind.bits .i64)))) (0 : Int) h2))
theorem E0 (S : Stop) (x0 : Int) (x1 : Value) (x2p : Option Addr) (x2l x2c : Nat) (h : Heap) (K : KK) : (E Tryz.prog X T S body (fin Tryz.prog Tryz.f61.results.toList K) (args0 0 [(.int .i64 x0), x1, (.slice x2p x2l x2c)]) h) = J0 (fun x1 x2p x2l x2c x7 x14 x15 h => S (en S [1, 1, 0, 1] (c0 S K)) (f3 x1 x2p x2l x2c x7 x14 x15) h) x0 x1 x2p x2l x2c h K := by kernel_rfl
def Jk3 (lp3 : Value → (Option Addr) → Nat → Nat → (Option Nat) → Int → Int → Heap → Prop) (x1 : Value) (x2p : Option Addr) (x2l x2c : Nat) (x7 : Option Nat) (x14 x15 : Int) (h : Heap) (_K : KK) : Prop :=
  lp3 x1 x2p x2l x2c x7 x14 x15 h
theorem Ek3 (S : Stop) (x1 : Value) (x2p : Option Addr) (x2l x2c : Nat) (x7 : Option Nat) (x14 x15 : Int) (h : Heap) (K : KK) : (en S [1, 1, 0, 1] (c0 S K) (f3 x1 x2p x2l x2c x7 x14 x15) h) = Jk3 (fun x1 x2p x2l x2c x7 x14 x15 h => ∃ n, S (ln S [1, 1, 0, 1, 0, 0] (c1 S K) n) (f3 x1 x2p x2l x2c x7 x14 x15) h) x1 x2p x2l x2c x7 x14 x15 h K := by kernel_rfl
def JL3 (bk3 : Value → (Option Addr) → Nat → Nat → (Option Nat) → Int → Int → Heap → Prop) (k8 : Value → (Option Addr) → Nat → Nat → (Option Nat) → Int → Int → Int → Int → (Option Addr) → Nat → Nat → Int → Int → Heap → Prop) (x1 : Value) (x2p : Option Addr) (x2l x2c : Nat) (x7 : Option Nat) (x14 x15 : Int) (h : Heap) (K : KK) : Prop :=
  bcase (decide (x15 < x14)) (dynK Tryz.prog X x1 [(.int .u8 (IntKind.wrap .u8 x15))] h (fun v1 h2 => ldB (some v1) (fun b3 => bcase (!b3) (bk3 x1 x2p x2l x2c x7 x14 (IntKind.wrap .i64 (x15 + (1 : Int))) h2) (k8 x1 x2p x2l x2c x7 x15 (0 : Int) x14 x15 x2p x2l x2c (Nat.cast x2l : Int) (0 : Int) h2)))) (K (.map x7) h)
theorem EL3 (S : Stop) (n3 : Nat) (x1 : Value) (x2p : Option Addr) (x2l x2c : Nat) (x7 : Option Nat) (x14 x15 : Int) (h : Heap) (K : KK) : (en S [1, 1, 0, 1, 0, 0] (c2 S n3 K) (f3 x1 x2p x2l x2c x7 x14 x15) h) = JL3 (fun x1 x2p x2l x2c x7 x14 x15 h => S (ln S [1, 1, 0, 1, 0, 0] (c1 S K) n3) (f3 x1 x2p x2l x2c x7 x14 x15) h) (fun x1 x2p x2l x2c x7 x8 x9 x14 x15 x23p x23l x23c x24 x25 h => S (en S [1, 1, 0, 1, 0, 0, 1, 1, 0, 0, 1, 1, 1, 0, 1] (c5 S n3 K)) (f8 x1 x2p x2l x2c x7 x8 x9 x14 x15 x23p x23l x23c x24 x25) h) x1 x2p x2l x2c x7 x14 x15 h K := by kernel_rfl
def Jk8 (lp8 : Value → (Option Addr) → Nat → Nat → (Option Nat) → Int → Int → Int → Int → (Option Addr) → Nat → Nat → Int → Int → Heap → Prop) (x1 : Value) (x2p : Option Addr) (x2l x2c : Nat) (x7 : Option Nat) (x8 x9 x14 x15 : Int) (x23p : Option Addr) (x23l x23c : Nat) (x24 x25 : Int) (h : Heap) (_K : KK) : Prop :=
  lp8 x1 x2p x2l x2c x7 x8 x9 x14 x15 x23p x23l x23c x24 x25 h
theorem Ek8 (S : Stop) (n3 : Nat) (x1 : Value) (x2p : Option Addr) (x2l x2c : Nat) (x7 : Option Nat) (x8 x9 x14 x15 : Int) (x23p : Option Addr) (x23l x23c : Nat) (x24 x25 : Int) (h : Heap) (K : KK) : (en S [1, 1, 0, 1, 0, 0, 1, 1, 0, 0, 1, 1, 1, 0, 1] (c5 S n3 K) (f8 x1 x2p x2l x2c x7 x8 x9 x14 x15 x23p x23l x23c x24 x25) h) = Jk8 (fun x1 x2p x2l x2c x7 x8 x9 x14 x15 x23p x23l x23c x24 x25 h => ∃ n, S (ln S [1, 1, 0, 1, 0, 0, 1, 1, 0, 0, 1, 1, 1, 0, 1, 0, 0] (c6 S n3 K) n) (f8 x1 x2p x2l x2c x7 x8 x9 x14 x15 x23p x23l x23c x24 x25) h) x1 x2p x2l x2c x7 x8 x9 x14 x15 x23p x23l x23c x24 x25 h K := by kernel_rfl
def JL8 (bk8 : Value → (Option Addr) → Nat → Nat → (Option Nat) → Int → Int → Int → Int → (Option Addr) → Nat → Nat → Int → Int → Heap → Prop) (k12 : Value → (Option Addr) → Nat → Nat → (Option Nat) → Int → Int → Int → Int → Heap → Prop) (x1 : Value) (x2p : Option Addr) (x2l x2c : Nat) (x7 : Option Nat) (x8 x9 x14 x15 : Int) (x23p : Option Addr) (x23l x23c : Nat) (x24 x25 : Int) (h : Heap) (_K : KK) : Prop :=
  bcase (decide (x25 < x24)) (ptrK x23p (fun a1 => (0 ≤ x25 ∧ x25 < (Nat.cast x23l : Int) ∧ ldI .i64 (rd h (Addr.add a1 (Int.toNat x25 * 1))) (fun n2 => (0 ≤ x25 ∧ bk8 x1 x2p x2l x2c x7 x8 (IntKind.wrap .i64 (x9 + (IntKind.wrap .i64 ((bitsI .and .i64 (Int.fdiv x8 (2 ^ (min (Int.toNat x25) (IntKind.bits .i64)))) (1 : Int)) * n2)))) x14 x15 x23p x23l x23c x24 (IntKind.wrap .i64 (x25 + (1 : Int))) h))))) (k12 x1 x2p x2l x2c x7 x8 x9 x14 x15 h)
theorem EL8 (S : Stop) (n3 : Nat) (n8 : Nat) (x1 : Value) (x2p : Option Addr) (x2l x2c : Nat) (x7 : Option Nat) (x8 x9 x14 x15 : Int) (x23p : Option Addr) (x23l x23c : Nat) (x24 x25 : Int) (h : Heap) (K : KK) : (en S [1, 1, 0, 1, 0, 0, 1, 1, 0, 0, 1, 1, 1, 0, 1, 0, 0] (c7 S n3 n8 K) (f8 x1 x2p x2l x2c x7 x8 x9 x14 x15 x23p x23l x23c x24 x25) h) = JL8 (fun x1 x2p x2l x2c x7 x8 x9 x14 x15 x23p x23l x23c x24 x25 h => S (ln S [1, 1, 0, 1, 0, 0, 1, 1, 0, 0, 1, 1, 1, 0, 1, 0, 0] (c6 S n3 K) n8) (f8 x1 x2p x2l x2c x7 x8 x9 x14 x15 x23p x23l x23c x24 x25) h) (fun x1 x2p x2l x2c x7 x8 x9 x14 x15 h => S (en S [1, 1, 0, 1, 0, 0, 1, 1, 0, 0, 1, 1, 1, 1] (c4 S n3 K)) (f12 x1 x2p x2l x2c x7 x8 x9 x14 x15) h) x1 x2p x2l x2c x7 x8 x9 x14 x15 x23p x23l x23c x24 x25 h K := by kernel_rfl
def Jk12 (bk3 : Value → (Option Addr) → Nat → Nat → (Option Nat) → Int → Int → Heap → Prop) (x1 : Value) (x2p : Option Addr) (x2l x2c : Nat) (x7 : Option Nat) (x8 x9 x14 x15 : Int) (h : Heap) (_K : KK) : Prop :=
  updK h x7 .u8 .u8 (IntKind.wrap .u8 x8) (.int .i64 x9) (fun h1 => bk3 x1 x2p x2l x2c x7 x14 (IntKind.wrap .i64 (x15 + (1 : Int))) h1)
theorem Ek12 (S : Stop) (n3 : Nat) (x1 : Value) (x2p : Option Addr) (x2l x2c : Nat) (x7 : Option Nat) (x8 x9 x14 x15 : Int) (h : Heap) (K : KK) : (en S [1, 1, 0, 1, 0, 0, 1, 1, 0, 0, 1, 1, 1, 1] (c4 S n3 K) (f12 x1 x2p x2l x2c x7 x8 x9 x14 x15) h) = Jk12 (fun x1 x2p x2l x2c x7 x14 x15 h => S (ln S [1, 1, 0, 1, 0, 0] (c1 S K) n3) (f3 x1 x2p x2l x2c x7 x14 x15) h) x1 x2p x2l x2c x7 x8 x9 x14 x15 h K := by kernel_rfl
def wk12 (bk3 : Value → (Option Addr) → Nat → Nat → (Option Nat) → Int → Int → Heap → Prop) (x1 : Value) (x2p : Option Addr) (x2l x2c : Nat) (x7 : Option Nat) (x8 x9 x14 x15 : Int) (h : Heap) (K : KK) : Prop :=
  Jk12 bk3 x1 x2p x2l x2c x7 x8 x9 x14 x15 h K
theorem ek12 (K : KK) (n3 : Nat) (bk3 : Value → (Option Addr) → Nat → Nat → (Option Nat) → Int → Int → Heap → Prop) (hb3 : ∀ (x1 : Value) (x2p : Option Addr) (x2l x2c : Nat) (x7 : Option Nat) (x14 x15 : Int) (h : Heap), (ln S0 [1, 1, 0, 1, 0, 0] (c1 S0 K) n3 (f3 x1 x2p x2l x2c x7 x14 x15) h) = bk3 x1 x2p x2l x2c x7 x14 x15 h) (x1 : Value) (x2p : Option Addr) (x2l x2c : Nat) (x7 : Option Nat) (x8 x9 x14 x15 : Int) (h : Heap) : (en S0 [1, 1, 0, 1, 0, 0, 1, 1, 0, 0, 1, 1, 1, 1] (c4 S0 n3 K) (f12 x1 x2p x2l x2c x7 x8 x9 x14 x15) h) = wk12 bk3 x1 x2p x2l x2c x7 x8 x9 x14 x15 h K := (Ek12 S0 n3 x1 x2p x2l x2c x7 x8 x9 x14 x15 h K).trans (cg1 (fun q0 => Jk12 q0 x1 x2p x2l x2c x7 x8 x9 x14 x15 h K) (by funext x1 x2p x2l x2c x7 x14 x15 h; exact hb3 x1 x2p x2l x2c x7 x14 x15 h))
def wL8 (bk3 : Value → (Option Addr) → Nat → Nat → (Option Nat) → Int → Int → Heap → Prop) : Nat → Value → (Option Addr) → Nat → Nat → (Option Nat) → Int → Int → Int → Int → (Option Addr) → Nat → Nat → Int → Int → Heap → KK → Prop
  | 0, _, _, _, _, _, _, _, _, _, _, _, _, _, _, _, _ => False
  | n + 1, x1, x2p, x2l, x2c, x7, x8, x9, x14, x15, x23p, x23l, x23c, x24, x25, h, K => JL8 (fun x1 x2p x2l x2c x7 x8 x9 x14 x15 x23p x23l x23c x24 x25 h => wL8 bk3 n x1 x2p x2l x2c x7 x8 x9 x14 x15 x23p x23l x23c x24 x25 h K) (fun x1 x2p x2l x2c x7 x8 x9 x14 x15 h => wk12 bk3 x1 x2p x2l x2c x7 x8 x9 x14 x15 h K) x1 x2p x2l x2c x7 x8 x9 x14 x15 x23p x23l x23c x24 x25 h K
theorem eL8 (K : KK) (n3 : Nat) (bk3 : Value → (Option Addr) → Nat → Nat → (Option Nat) → Int → Int → Heap → Prop) (hb3 : ∀ (x1 : Value) (x2p : Option Addr) (x2l x2c : Nat) (x7 : Option Nat) (x14 x15 : Int) (h : Heap), (ln S0 [1, 1, 0, 1, 0, 0] (c1 S0 K) n3 (f3 x1 x2p x2l x2c x7 x14 x15) h) = bk3 x1 x2p x2l x2c x7 x14 x15 h) : ∀ (n : Nat) (x1 : Value) (x2p : Option Addr) (x2l x2c : Nat) (x7 : Option Nat) (x8 x9 x14 x15 : Int) (x23p : Option Addr) (x23l x23c : Nat) (x24 x25 : Int) (h : Heap), (ln S0 [1, 1, 0, 1, 0, 0, 1, 1, 0, 0, 1, 1, 1, 0, 1, 0, 0] (c6 S0 n3 K) n (f8 x1 x2p x2l x2c x7 x8 x9 x14 x15 x23p x23l x23c x24 x25) h) = wL8 bk3 n x1 x2p x2l x2c x7 x8 x9 x14 x15 x23p x23l x23c x24 x25 h K
  | 0, _, _, _, _, _, _, _, _, _, _, _, _, _, _, _ => rfl
  | n + 1, x1, x2p, x2l, x2c, x7, x8, x9, x14, x15, x23p, x23l, x23c, x24, x25, h => (EL8 S0 n3 n x1 x2p x2l x2c x7 x8 x9 x14 x15 x23p x23l x23c x24 x25 h K).trans (cg2 (fun q0 q1 => JL8 q0 q1 x1 x2p x2l x2c x7 x8 x9 x14 x15 x23p x23l x23c x24 x25 h K) (by funext x1 x2p x2l x2c x7 x8 x9 x14 x15 x23p x23l x23c x24 x25 h; exact (fun x1 x2p x2l x2c x7 x8 x9 x14 x15 x23p x23l x23c x24 x25 h => eL8 K n3 bk3 hb3 n x1 x2p x2l x2c x7 x8 x9 x14 x15 x23p x23l x23c x24 x25 h) x1 x2p x2l x2c x7 x8 x9 x14 x15 x23p x23l x23c x24 x25 h) (by funext x1 x2p x2l x2c x7 x8 x9 x14 x15 h; exact ek12 K n3 bk3 hb3 x1 x2p x2l x2c x7 x8 x9 x14 x15 h))
def wk8 (bk3 : Value → (Option Addr) → Nat → Nat → (Option Nat) → Int → Int → Heap → Prop) (x1 : Value) (x2p : Option Addr) (x2l x2c : Nat) (x7 : Option Nat) (x8 x9 x14 x15 : Int) (x23p : Option Addr) (x23l x23c : Nat) (x24 x25 : Int) (h : Heap) (K : KK) : Prop :=
  Jk8 (fun x1 x2p x2l x2c x7 x8 x9 x14 x15 x23p x23l x23c x24 x25 h => ∃ m, wL8 bk3 m x1 x2p x2l x2c x7 x8 x9 x14 x15 x23p x23l x23c x24 x25 h K) x1 x2p x2l x2c x7 x8 x9 x14 x15 x23p x23l x23c x24 x25 h K
theorem ek8 (K : KK) (n3 : Nat) (bk3 : Value → (Option Addr) → Nat → Nat → (Option Nat) → Int → Int → Heap → Prop) (hb3 : ∀ (x1 : Value) (x2p : Option Addr) (x2l x2c : Nat) (x7 : Option Nat) (x14 x15 : Int) (h : Heap), (ln S0 [1, 1, 0, 1, 0, 0] (c1 S0 K) n3 (f3 x1 x2p x2l x2c x7 x14 x15) h) = bk3 x1 x2p x2l x2c x7 x14 x15 h) (x1 : Value) (x2p : Option Addr) (x2l x2c : Nat) (x7 : Option Nat) (x8 x9 x14 x15 : Int) (x23p : Option Addr) (x23l x23c : Nat) (x24 x25 : Int) (h : Heap) : (en S0 [1, 1, 0, 1, 0, 0, 1, 1, 0, 0, 1, 1, 1, 0, 1] (c5 S0 n3 K) (f8 x1 x2p x2l x2c x7 x8 x9 x14 x15 x23p x23l x23c x24 x25) h) = wk8 bk3 x1 x2p x2l x2c x7 x8 x9 x14 x15 x23p x23l x23c x24 x25 h K := (Ek8 S0 n3 x1 x2p x2l x2c x7 x8 x9 x14 x15 x23p x23l x23c x24 x25 h K).trans (cg1 (fun q0 => Jk8 q0 x1 x2p x2l x2c x7 x8 x9 x14 x15 x23p x23l x23c x24 x25 h K) (by funext x1 x2p x2l x2c x7 x8 x9 x14 x15 x23p x23l x23c x24 x25 h; exact ex_congr fun m => eL8 K n3 bk3 hb3 m x1 x2p x2l x2c x7 x8 x9 x14 x15 x23p x23l x23c x24 x25 h))
def wL3 : Nat → Value → (Option Addr) → Nat → Nat → (Option Nat) → Int → Int → Heap → KK → Prop
  | 0, _, _, _, _, _, _, _, _, _ => False
  | n + 1, x1, x2p, x2l, x2c, x7, x14, x15, h, K => JL3 (fun x1 x2p x2l x2c x7 x14 x15 h => wL3 n x1 x2p x2l x2c x7 x14 x15 h K) (fun x1 x2p x2l x2c x7 x8 x9 x14 x15 x23p x23l x23c x24 x25 h => wk8 (fun x1 x2p x2l x2c x7 x14 x15 h => wL3 n x1 x2p x2l x2c x7 x14 x15 h K) x1 x2p x2l x2c x7 x8 x9 x14 x15 x23p x23l x23c x24 x25 h K) x1 x2p x2l x2c x7 x14 x15 h K
theorem eL3 (K : KK) : ∀ (n : Nat) (x1 : Value) (x2p : Option Addr) (x2l x2c : Nat) (x7 : Option Nat) (x14 x15 : Int) (h : Heap), (ln S0 [1, 1, 0, 1, 0, 0] (c1 S0 K) n (f3 x1 x2p x2l x2c x7 x14 x15) h) = wL3 n x1 x2p x2l x2c x7 x14 x15 h K
  | 0, _, _, _, _, _, _, _, _ => rfl
  | n + 1, x1, x2p, x2l, x2c, x7, x14, x15, h => (EL3 S0 n x1 x2p x2l x2c x7 x14 x15 h K).trans (cg2 (fun q0 q1 => JL3 q0 q1 x1 x2p x2l x2c x7 x14 x15 h K) (by funext x1 x2p x2l x2c x7 x14 x15 h; exact (fun x1 x2p x2l x2c x7 x14 x15 h => eL3 K n x1 x2p x2l x2c x7 x14 x15 h) x1 x2p x2l x2c x7 x14 x15 h) (by funext x1 x2p x2l x2c x7 x8 x9 x14 x15 x23p x23l x23c x24 x25 h; exact ek8 K n (fun x1 x2p x2l x2c x7 x14 x15 h => wL3 n x1 x2p x2l x2c x7 x14 x15 h K) (fun x1 x2p x2l x2c x7 x14 x15 h => eL3 K n x1 x2p x2l x2c x7 x14 x15 h) x1 x2p x2l x2c x7 x8 x9 x14 x15 x23p x23l x23c x24 x25 h))
def wk3 (x1 : Value) (x2p : Option Addr) (x2l x2c : Nat) (x7 : Option Nat) (x14 x15 : Int) (h : Heap) (K : KK) : Prop :=
  Jk3 (fun x1 x2p x2l x2c x7 x14 x15 h => ∃ m, wL3 m x1 x2p x2l x2c x7 x14 x15 h K) x1 x2p x2l x2c x7 x14 x15 h K
theorem ek3 (K : KK) (x1 : Value) (x2p : Option Addr) (x2l x2c : Nat) (x7 : Option Nat) (x14 x15 : Int) (h : Heap) : (en S0 [1, 1, 0, 1] (c0 S0 K) (f3 x1 x2p x2l x2c x7 x14 x15) h) = wk3 x1 x2p x2l x2c x7 x14 x15 h K := (Ek3 S0 x1 x2p x2l x2c x7 x14 x15 h K).trans (cg1 (fun q0 => Jk3 q0 x1 x2p x2l x2c x7 x14 x15 h K) (by funext x1 x2p x2l x2c x7 x14 x15 h; exact ex_congr fun m => eL3 K m x1 x2p x2l x2c x7 x14 x15 h))
def w (x0 : Int) (x1 : Value) (x2p : Option Addr) (x2l x2c : Nat) (h : Heap) (K : KK) : Prop :=
  J0 (fun x1 x2p x2l x2c x7 x14 x15 h => wk3 x1 x2p x2l x2c x7 x14 x15 h K) x0 x1 x2p x2l x2c h K
theorem e0 (K : KK) (x0 : Int) (x1 : Value) (x2p : Option Addr) (x2l x2c : Nat) (h : Heap) : (E Tryz.prog X T S0 body (fin Tryz.prog Tryz.f61.results.toList K) (args0 0 [(.int .i64 x0), x1, (.slice x2p x2l x2c)]) h) = w x0 x1 x2p x2l x2c h K := (E0 S0 x0 x1 x2p x2l x2c h K).trans (cg1 (fun q0 => J0 q0 x0 x1 x2p x2l x2c h K) (by funext x1 x2p x2l x2c x7 x14 x15 h; exact ek3 K x1 x2p x2l x2c x7 x14 x15 h))
theorem hb : Tryz.f61.body = some body := by kernel_rfl
theorem ok : okCode T Tryz.f61.ntmps body = true := by kernel_rfl
theorem spec (x0 : Int) (x1 : Value) (x2p : Option Addr) (x2l : Nat) (x2c : Nat) (h : Heap) (K : KK) (H : w x0 x1 x2p x2l x2c h K) : CallsH Tryz.prog 61 [(.int .i64 x0), x1, (.slice x2p x2l x2c)] h K :=
  calls_of_E (T := T) Xok mix Tryz.func61 hb ok rfl (by rw [e0]; exact H)
end F61
-- spinney/weigh.all
namespace F39
def T : Hint := ⟨[], []⟩
noncomputable def body : Code := (Tryz.f39.body).getD .skip
def J0 (x0 : Addr) (x1 : Int) (x2p : Option Addr) (x2l x2c : Nat) (h : Heap) (K : KK) : Prop :=
  CallsH Tryz.prog 58 [(.pointer (some x0))] h (fun v1 h2 => ldI .i64 (some v1) (fun n3 => CallsH Tryz.prog 61 [(.int .i64 n3), (.func (.func 62) #[(.agg #[(.pointer (some x0)), (.int .u32 x1)])] #[]), (.slice x2p x2l x2c)] h2 (fun v4 h5 => ldM (some v4) (fun r6 => K (.map r6) h5))))
theorem E0 (S : Stop) (x0 : Addr) (x1 : Int) (x2p : Option Addr) (x2l x2c : Nat) (h : Heap) (K : KK) : (E Tryz.prog X T S body (fin Tryz.prog Tryz.f39.results.toList K) (args0 0 [(.pointer (some x0)), (.int .u32 x1), (.slice x2p x2l x2c)]) h) = J0 x0 x1 x2p x2l x2c h K := by kernel_rfl
def w (x0 : Addr) (x1 : Int) (x2p : Option Addr) (x2l x2c : Nat) (h : Heap) (K : KK) : Prop :=
  J0 x0 x1 x2p x2l x2c h K
theorem e0 (K : KK) (x0 : Addr) (x1 : Int) (x2p : Option Addr) (x2l x2c : Nat) (h : Heap) : (E Tryz.prog X T S0 body (fin Tryz.prog Tryz.f39.results.toList K) (args0 0 [(.pointer (some x0)), (.int .u32 x1), (.slice x2p x2l x2c)]) h) = w x0 x1 x2p x2l x2c h K := (E0 S0 x0 x1 x2p x2l x2c h K).trans (rfl)
theorem hb : Tryz.f39.body = some body := by kernel_rfl
theorem ok : okCode T Tryz.f39.ntmps body = true := by kernel_rfl
theorem spec (x0 : Addr) (x1 : Int) (x2p : Option Addr) (x2l : Nat) (x2c : Nat) (h : Heap) (K : KK) (H : w x0 x1 x2p x2l x2c h K) : CallsH Tryz.prog 39 [(.pointer (some x0)), (.int .u32 x1), (.slice x2p x2l x2c)] h K :=
  calls_of_E (T := T) Xok mix Tryz.func39 hb ok rfl (by rw [e0]; exact H)
end F39
-- spinney/weigh.refuses
namespace F38
def T : Hint := ⟨[], []⟩
noncomputable def body : Code := (Tryz.f38.body).getD .skip
def J0 (x0 : Addr) (x1 : Int) (x2p : Option Addr) (x2l x2c : Nat) (h : Heap) (K : KK) : Prop :=
  CallsH Tryz.prog 21 [(.pointer (some x0)), (.int .u32 x1)] h (fun v1 h2 => ldB (some v1) (fun b3 => bcase (!b3) (K (.int .i64 (101 : Int)) h2) (CallsH Tryz.prog 58 [(.pointer (some x0))] h2 (fun v4 h5 => ldI .i64 (some v4) (fun n6 => bcase ((Nat.cast x2l : Int) != n6) (K (.int .i64 (40 : Int)) h5) (CallsH Tryz.prog 59 [(.slice x2p x2l x2c), (.func (.func 60) #[] #[])] h5 (fun v7 h8 => ldB (some v7) (fun b9 => bcase b9 (K (.int .i64 (40 : Int)) h8) (K (.int .i64 (0 : Int)) h8)))))))))
theorem E0 (S : Stop) (x0 : Addr) (x1 : Int) (x2p : Option Addr) (x2l x2c : Nat) (h : Heap) (K : KK) : (E Tryz.prog X T S body (fin Tryz.prog Tryz.f38.results.toList K) (args0 0 [(.pointer (some x0)), (.int .u32 x1), (.slice x2p x2l x2c)]) h) = J0 x0 x1 x2p x2l x2c h K := by kernel_rfl
def w (x0 : Addr) (x1 : Int) (x2p : Option Addr) (x2l x2c : Nat) (h : Heap) (K : KK) : Prop :=
  J0 x0 x1 x2p x2l x2c h K
theorem e0 (K : KK) (x0 : Addr) (x1 : Int) (x2p : Option Addr) (x2l x2c : Nat) (h : Heap) : (E Tryz.prog X T S0 body (fin Tryz.prog Tryz.f38.results.toList K) (args0 0 [(.pointer (some x0)), (.int .u32 x1), (.slice x2p x2l x2c)]) h) = w x0 x1 x2p x2l x2c h K := (E0 S0 x0 x1 x2p x2l x2c h K).trans (rfl)
theorem hb : Tryz.f38.body = some body := by kernel_rfl
theorem ok : okCode T Tryz.f38.ntmps body = true := by kernel_rfl
theorem spec (x0 : Addr) (x1 : Int) (x2p : Option Addr) (x2l : Nat) (x2c : Nat) (h : Heap) (K : KK) (H : w x0 x1 x2p x2l x2c h K) : CallsH Tryz.prog 38 [(.pointer (some x0)), (.int .u32 x1), (.slice x2p x2l x2c)] h K :=
  calls_of_E (T := T) Xok mix Tryz.func38 hb ok rfl (by rw [e0]; exact H)
end F38
-- slices.ContainsFunc[[]int,int]
namespace F59
def T : Hint := ⟨[], []⟩
noncomputable def body : Code := (Tryz.f59.body).getD .skip
def J0 (x0p : Option Addr) (x0l x0c : Nat) (x1 : Value) (h : Heap) (K : KK) : Prop :=
  CallsH Tryz.prog 79 [(.slice x0p x0l x0c), x1] h (fun v1 h2 => ldI .i64 (some v1) (fun n3 => K (.bool (decide (n3 ≥ (0 : Int)))) h2))
theorem E0 (S : Stop) (x0p : Option Addr) (x0l x0c : Nat) (x1 : Value) (h : Heap) (K : KK) : (E Tryz.prog X T S body (fin Tryz.prog Tryz.f59.results.toList K) (args0 0 [(.slice x0p x0l x0c), x1]) h) = J0 x0p x0l x0c x1 h K := by kernel_rfl
def w (x0p : Option Addr) (x0l x0c : Nat) (x1 : Value) (h : Heap) (K : KK) : Prop :=
  J0 x0p x0l x0c x1 h K
theorem e0 (K : KK) (x0p : Option Addr) (x0l x0c : Nat) (x1 : Value) (h : Heap) : (E Tryz.prog X T S0 body (fin Tryz.prog Tryz.f59.results.toList K) (args0 0 [(.slice x0p x0l x0c), x1]) h) = w x0p x0l x0c x1 h K := (E0 S0 x0p x0l x0c x1 h K).trans (rfl)
theorem hb : Tryz.f59.body = some body := by kernel_rfl
theorem ok : okCode T Tryz.f59.ntmps body = true := by kernel_rfl
theorem spec (x0p : Option Addr) (x0l : Nat) (x0c : Nat) (x1 : Value) (h : Heap) (K : KK) (H : w x0p x0l x0c x1 h K) : CallsH Tryz.prog 59 [(.slice x0p x0l x0c), x1] h K :=
  calls_of_E (T := T) Xok mix Tryz.func59 hb ok rfl (by rw [e0]; exact H)
end F59
-- spinney/weigh.refuses$1
namespace F60
def T : Hint := ⟨[], []⟩
noncomputable def body : Code := (Tryz.f60.body).getD .skip
def J0 (x0 : Int) (h : Heap) (K : KK) : Prop :=
  bcase (decide (x0 < (-1000 : Int))) (K (.bool true) h) (K (.bool (decide (x0 > (1000 : Int)))) h)
theorem E0 (S : Stop) (x0 : Int) (h : Heap) (K : KK) : (E Tryz.prog X T S body (fin Tryz.prog Tryz.f60.results.toList K) (args0 0 [(.int .i64 x0)]) h) = J0 x0 h K := by kernel_rfl
def w (x0 : Int) (h : Heap) (K : KK) : Prop :=
  J0 x0 h K
theorem e0 (K : KK) (x0 : Int) (h : Heap) : (E Tryz.prog X T S0 body (fin Tryz.prog Tryz.f60.results.toList K) (args0 0 [(.int .i64 x0)]) h) = w x0 h K := (E0 S0 x0 h K).trans (rfl)
theorem hb : Tryz.f60.body = some body := by kernel_rfl
theorem ok : okCode T Tryz.f60.ntmps body = true := by kernel_rfl
theorem spec (x0 : Int) (h : Heap) (K : KK) (H : w x0 h K) : CallsH Tryz.prog 60 [(.int .i64 x0)] h K :=
  calls_of_E (T := T) Xok mix Tryz.func60 hb ok rfl (by rw [e0]; exact H)
end F60
-- slices.IndexFunc[[]int,int]
namespace F79
def T : Hint := ⟨[(2, [0, 1, 7, 8])], []⟩
noncomputable def body : Code := (Tryz.f79.body).getD .skip
noncomputable def en (S : Stop) (p : List Nat) (κ : XK) : Fr → Heap → Prop := E Tryz.prog X T S (sub body p) κ
noncomputable def ln (S : Stop) (p : List Nat) (κ : XK) (n : Nat) : Fr → Heap → Prop := loopN S (E Tryz.prog X T S (sub body p)) (cutQ T (sub body p)) κ n
def fn (K : KK) : XK := fin Tryz.prog Tryz.f79.results.toList K
noncomputable def c0 (S : Stop) (K : KK) : XK := seqN S (cutQ T (sub body [1, 1])) (en S [1, 1] (fn K)) (fn K)
noncomputable def c1 (S : Stop) (K : KK) : XK := blockN 0 (c0 S K)
noncomputable def c2 (S : Stop) (n2 : Nat) (K : KK) : XK := backN S (cutQ T (sub body [1, 0, 1, 0, 0])) (ln S [1, 0, 1, 0, 0] (c1 S K) n2) (c1 S K)
def f2 (x0p : Option Addr) (x0l x0c : Nat) (x1 : Value) (x7 x8 : Int) : Fr := [(0, (.slice x0p x0l x0c)), (1, x1), (7, (.int .i64 x7)), (8, (.int .i64 x8))]
def J0 (k2 : (Option Addr) → Nat → Nat → Value → Int → Int → Heap → Prop) (x0p : Option Addr) (x0l x0c : Nat) (x1 : Value) (h : Heap) (_K : KK) : Prop :=
  k2 x0p x0l x0c x1 (Nat.cast x0l : Int) (0 : Int) h
theorem E0 (S : Stop) (x0p : Option Addr) (x0l x0c : Nat) (x1 : Value) (h : Heap) (K : KK) : (E Tryz.prog X T S body (fin Tryz.prog Tryz.f79.results.toList K) (args0 0 [(.slice x0p x0l x0c), x1]) h) = J0 (fun x0p x0l x0c x1 x7 x8 h => S (en S [1, 0, 1] (c0 S K)) (f2 x0p x0l x0c x1 x7 x8) h) x0p x0l x0c x1 h K := by kernel_rfl
def Jk2 (lp2 : (Option Addr) → Nat → Nat → Value → Int → Int → Heap → Prop) (x0p : Option Addr) (x0l x0c : Nat) (x1 : Value) (x7 x8 : Int) (h : Heap) (_K : KK) : Prop :=
  lp2 x0p x0l x0c x1 x7 x8 h
theorem Ek2 (S : Stop) (x0p : Option Addr) (x0l x0c : Nat) (x1 : Value) (x7 x8 : Int) (h : Heap) (K : KK) : (en S [1, 0, 1] (c0 S K) (f2 x0p x0l x0c x1 x7 x8) h) = Jk2 (fun x0p x0l x0c x1 x7 x8 h => ∃ n, S (ln S [1, 0, 1, 0, 0] (c1 S K) n) (f2 x0p x0l x0c x1 x7 x8) h) x0p x0l x0c x1 x7 x8 h K := by kernel_rfl
def JL2 (bk2 : (Option Addr) → Nat → Nat → Value → Int → Int → Heap → Prop) (x0p : Option Addr) (x0l x0c : Nat) (x1 : Value) (x7 x8 : Int) (h : Heap) (K : KK) : Prop :=
  bcase (decide (x8 < x7)) (ptrK x0p (fun a1 => (0 ≤ x8 ∧ x8 < (Nat.cast x0l : Int) ∧ ldI .i64 (rd h (Addr.add a1 (Int.toNat x8 * 1))) (fun n2 => dynK Tryz.prog X x1 [(.int .i64 n2)] h (fun v3 h4 => ldB (some v3) (fun b5 => bcase b5 (K (.int .i64 x8) h4) (bk2 x0p x0l x0c x1 x7 (IntKind.wrap .i64 (x8 + (1 : Int))) h4))))))) (K (.int .i64 (-1 : Int)) h)
theorem EL2 (S : Stop) (n2 : Nat) (x0p : Option Addr) (x0l x0c : Nat) (x1 : Value) (x7 x8 : Int) (h : Heap) (K : KK) : (en S [1, 0, 1, 0, 0] (c2 S n2 K) (f2 x0p x0l x0c x1 x7 x8) h) = JL2 (fun x0p x0l x0c x1 x7 x8 h => S (ln S [1, 0, 1, 0, 0] (c1 S K) n2) (f2 x0p x0l x0c x1 x7 x8) h) x0p x0l x0c x1 x7 x8 h K := by kernel_rfl
def wL2 : Nat → (Option Addr) → Nat → Nat → Value → Int → Int → Heap → KK → Prop
  | 0, _, _, _, _, _, _, _, _ => False
  | n + 1, x0p, x0l, x0c, x1, x7, x8, h, K => JL2 (fun x0p x0l x0c x1 x7 x8 h => wL2 n x0p x0l x0c x1 x7 x8 h K) x0p x0l x0c x1 x7 x8 h K
theorem eL2 (K : KK) : ∀ (n : Nat) (x0p : Option Addr) (x0l x0c : Nat) (x1 : Value) (x7 x8 : Int) (h : Heap), (ln S0 [1, 0, 1, 0, 0] (c1 S0 K) n (f2 x0p x0l x0c x1 x7 x8) h) = wL2 n x0p x0l x0c x1 x7 x8 h K
  | 0, _, _, _, _, _, _, _ => rfl
  | n + 1, x0p, x0l, x0c, x1, x7, x8, h => (EL2 S0 n x0p x0l x0c x1 x7 x8 h K).trans (cg1 (fun q0 => JL2 q0 x0p x0l x0c x1 x7 x8 h K) (by funext x0p x0l x0c x1 x7 x8 h; exact (fun x0p x0l x0c x1 x7 x8 h => eL2 K n x0p x0l x0c x1 x7 x8 h) x0p x0l x0c x1 x7 x8 h))
def wk2 (x0p : Option Addr) (x0l x0c : Nat) (x1 : Value) (x7 x8 : Int) (h : Heap) (K : KK) : Prop :=
  Jk2 (fun x0p x0l x0c x1 x7 x8 h => ∃ m, wL2 m x0p x0l x0c x1 x7 x8 h K) x0p x0l x0c x1 x7 x8 h K
theorem ek2 (K : KK) (x0p : Option Addr) (x0l x0c : Nat) (x1 : Value) (x7 x8 : Int) (h : Heap) : (en S0 [1, 0, 1] (c0 S0 K) (f2 x0p x0l x0c x1 x7 x8) h) = wk2 x0p x0l x0c x1 x7 x8 h K := (Ek2 S0 x0p x0l x0c x1 x7 x8 h K).trans (cg1 (fun q0 => Jk2 q0 x0p x0l x0c x1 x7 x8 h K) (by funext x0p x0l x0c x1 x7 x8 h; exact ex_congr fun m => eL2 K m x0p x0l x0c x1 x7 x8 h))
def w (x0p : Option Addr) (x0l x0c : Nat) (x1 : Value) (h : Heap) (K : KK) : Prop :=
  J0 (fun x0p x0l x0c x1 x7 x8 h => wk2 x0p x0l x0c x1 x7 x8 h K) x0p x0l x0c x1 h K
theorem e0 (K : KK) (x0p : Option Addr) (x0l x0c : Nat) (x1 : Value) (h : Heap) : (E Tryz.prog X T S0 body (fin Tryz.prog Tryz.f79.results.toList K) (args0 0 [(.slice x0p x0l x0c), x1]) h) = w x0p x0l x0c x1 h K := (E0 S0 x0p x0l x0c x1 h K).trans (cg1 (fun q0 => J0 q0 x0p x0l x0c x1 h K) (by funext x0p x0l x0c x1 x7 x8 h; exact ek2 K x0p x0l x0c x1 x7 x8 h))
theorem hb : Tryz.f79.body = some body := by kernel_rfl
theorem ok : okCode T Tryz.f79.ntmps body = true := by kernel_rfl
theorem spec (x0p : Option Addr) (x0l : Nat) (x0c : Nat) (x1 : Value) (h : Heap) (K : KK) (H : w x0p x0l x0c x1 h K) : CallsH Tryz.prog 79 [(.slice x0p x0l x0c), x1] h K :=
  calls_of_E (T := T) Xok mix Tryz.func79 hb ok rfl (by rw [e0]; exact H)
end F79
-- spinney/weigh.Best
namespace F17
def T : Hint := ⟨[(7, [11, 12, 13, 29, 30, 31]), (12, [11, 12, 13])], [(12, [[(0, []), (1, []), (2, []), (3, []), (4, []), (5, []), (6, []), (7, []), (8, [])]])]⟩
noncomputable def body : Code := (Tryz.f17.body).getD .skip
noncomputable def en (S : Stop) (p : List Nat) (κ : XK) : Fr → Heap → Prop := E Tryz.prog X T S (sub body p) κ
noncomputable def ln (S : Stop) (p : List Nat) (κ : XK) (n : Nat) : Fr → Heap → Prop := loopN S (E Tryz.prog X T S (sub body p)) (cutQ T (sub body p)) κ n
def fn (K : KK) : XK := fin Tryz.prog Tryz.f17.results.toList K
noncomputable def c0 (S : Stop) (K : KK) : XK := seqN S (cutQ T (sub body [1, 1, 1, 1, 1])) (en S [1, 1, 1, 1, 1] (fn K)) (fn K)
noncomputable def c1 (S : Stop) (K : KK) : XK := blockN 0 (c0 S K)
noncomputable def c2 (S : Stop) (n7 : Nat) (K : KK) : XK := backN S (cutQ T (sub body [1, 1, 1, 1, 0, 1, 0, 0])) (ln S [1, 1, 1, 1, 0, 1, 0, 0] (c1 S K) n7) (c1 S K)
def f7 (x11 : Option Nat) (x12 : Int) (x13 : Bool) (x29p : Option Addr) (x29l x29c : Nat) (x30 x31 : Int) : Fr := [(11, (.map x11)), (12, (.int .u8 x12)), (13, (.bool x13)), (29, (.slice x29p x29l x29c)), (30, (.int .i64 x30)), (31, (.int .i64 x31))]
def f12 (x11 : Option Nat) (x12 : Int) (x13 : Bool) : Fr := [(11, (.map x11)), (12, (.int .u8 x12)), (13, (.bool x13))]
def J0 (k7 : (Option Nat) → Int → Bool → (Option Addr) → Nat → Nat → Int → Int → Heap → Prop) (x0 : Addr) (x1 : Int) (x2p : Option Addr) (x2l x2c : Nat) (h : Heap) (K : KK) : Prop :=
  CallsH Tryz.prog 38 [(.pointer (some x0)), (.int .u32 x1), (.slice x2p x2l x2c)] h (fun v1 h2 => ldI .i64 (some v1) (fun n3 => bcase (n3 != (0 : Int)) (K (.tuple #[(.int .u8 (0 : Int)), (.int .i64 (0 : Int)), (.bool false), (.int .i64 n3)]) h2) (CallsH Tryz.prog 39 [(.pointer (some x0)), (.int .u32 x1), (.slice x2p x2l x2c)] h2 (fun v4 h5 => ldM (some v4) (fun r6 => CallsH Tryz.prog 41 [(.map r6)] h5 (fun v7 h8 => ldV (some v7) (fun v9 => CallsH Tryz.prog 40 [v9] h8 (fun v10 h11 => ldS (some v10) (fun p12 l13 c14 => k7 r6 (0 : Int) false p12 l13 c14 (Nat.cast l13 : Int) (0 : Int) h11)))))))))
theorem E0 (S : Stop) (x0 : Addr) (x1 : Int) (x2p : Option Addr) (x2l x2c : Nat) (h : Heap) (K : KK) : (E Tryz.prog X T S body (fin Tryz.prog Tryz.f17.results.toList K) (args0 0 [(.pointer (some x0)), (.int .u32 x1), (.slice x2p x2l x2c)]) h) = J0 (fun x11 x12 x13 x29p x29l x29c x30 x31 h => S (en S [1, 1, 1, 1, 0, 1] (c0 S K)) (f7 x11 x12 x13 x29p x29l x29c x30 x31) h) x0 x1 x2p x2l x2c h K := by kernel_rfl
def Jk7 (lp7 : (Option Nat) → Int → Bool → (Option Addr) → Nat → Nat → Int → Int → Heap → Prop) (x11 : Option Nat) (x12 : Int) (x13 : Bool) (x29p : Option Addr) (x29l x29c : Nat) (x30 x31 : Int) (h : Heap) (_K : KK) : Prop :=
  lp7 x11 x12 x13 x29p x29l x29c x30 x31 h
theorem Ek7 (S : Stop) (x11 : Option Nat) (x12 : Int) (x13 : Bool) (x29p : Option Addr) (x29l x29c : Nat) (x30 x31 : Int) (h : Heap) (K : KK) : (en S [1, 1, 1, 1, 0, 1] (c0 S K) (f7 x11 x12 x13 x29p x29l x29c x30 x31) h) = Jk7 (fun x11 x12 x13 x29p x29l x29c x30 x31 h => ∃ n, S (ln S [1, 1, 1, 1, 0, 1, 0, 0] (c1 S K) n) (f7 x11 x12 x13 x29p x29l x29c x30 x31) h) x11 x12 x13 x29p x29l x29c x30 x31 h K := by kernel_rfl
def JL7 (bk7 : (Option Nat) → Int → Bool → (Option Addr) → Nat → Nat → Int → Int → Heap → Prop) (k12 : (Option Nat) → Int → Bool → Heap → Prop) (x11 : Option Nat) (x12 : Int) (x13 : Bool) (x29p : Option Addr) (x29l x29c : Nat) (x30 x31 : Int) (h : Heap) (_K : KK) : Prop :=
  bcase (decide (x31 < x30)) (ptrK x29p (fun a1 => (0 ≤ x31 ∧ x31 < (Nat.cast x29l : Int) ∧ ldI .u8 (rd h (Addr.add a1 (Int.toNat x31 * 1))) (fun n2 => bcase (!x13) (bk7 x11 n2 true x29p x29l x29c x30 (IntKind.wrap .i64 (x31 + (1 : Int))) h) (lookK h x11 .u8 .u8 n2 (fun o3 => ldI .i64 (some (lkV (.int .i64 (0 : Int)) o3)) (fun n4 => lookK h x11 .u8 .u8 x12 (fun o5 => ldI .i64 (some (lkV (.int .i64 (0 : Int)) o5)) (fun n6 => bcase (decide (n4 < n6)) (bk7 x11 n2 true x29p x29l x29c x30 (IntKind.wrap .i64 (x31 + (1 : Int))) h) (bk7 x11 x12 x13 x29p x29l x29c x30 (IntKind.wrap .i64 (x31 + (1 : Int))) h)))))))))) (k12 x11 x12 x13 h)
theorem EL7 (S : Stop) (n7 : Nat) (x11 : Option Nat) (x12 : Int) (x13 : Bool) (x29p : Option Addr) (x29l x29c : Nat) (x30 x31 : Int) (h : Heap) (K : KK) : (en S [1, 1, 1, 1, 0, 1, 0, 0] (c2 S n7 K) (f7 x11 x12 x13 x29p x29l x29c x30 x31) h) = JL7 (fun x11 x12 x13 x29p x29l x29c x30 x31 h => S (ln S [1, 1, 1, 1, 0, 1, 0, 0] (c1 S K) n7) (f7 x11 x12 x13 x29p x29l x29c x30 x31) h) (fun x11 x12 x13 h => S (en S [1, 1, 1, 1, 1] (fn K)) (f12 x11 x12 x13) h) x11 x12 x13 x29p x29l x29c x30 x31 h K := by kernel_rfl
def Jk12 (x11 : Option Nat) (x12 : Int) (x13 : Bool) (h : Heap) (K : KK) : Prop :=
  lookK h x11 .u8 .u8 x12 (fun o1 => ldI .i64 (some (lkV (.int .i64 (0 : Int)) o1)) (fun n2 => K (.tuple #[(.int .u8 x12), (.int .i64 n2), (.bool x13), (.int .i64 (0 : Int))]) h))
theorem Ek12 (S : Stop) (x11 : Option Nat) (x12 : Int) (x13 : Bool) (h : Heap) (K : KK) : (en S [1, 1, 1, 1, 1] (fn K) (f12 x11 x12 x13) h) = Jk12 x11 x12 x13 h K := by kernel_rfl
def wk12 (x11 : Option Nat) (x12 : Int) (x13 : Bool) (h : Heap) (K : KK) : Prop :=
  Jk12 x11 x12 x13 h K
theorem ek12 (K : KK) (x11 : Option Nat) (x12 : Int) (x13 : Bool) (h : Heap) : (en S0 [1, 1, 1, 1, 1] (fn K) (f12 x11 x12 x13) h) = wk12 x11 x12 x13 h K := (Ek12 S0 x11 x12 x13 h K).trans (rfl)
def wL7 : Nat → (Option Nat) → Int → Bool → (Option Addr) → Nat → Nat → Int → Int → Heap → KK → Prop
  | 0, _, _, _, _, _, _, _, _, _, _ => False
  | n + 1, x11, x12, x13, x29p, x29l, x29c, x30, x31, h, K => JL7 (fun x11 x12 x13 x29p x29l x29c x30 x31 h => wL7 n x11 x12 x13 x29p x29l x29c x30 x31 h K) (fun x11 x12 x13 h => wk12 x11 x12 x13 h K) x11 x12 x13 x29p x29l x29c x30 x31 h K
theorem eL7 (K : KK) : ∀ (n : Nat) (x11 : Option Nat) (x12 : Int) (x13 : Bool) (x29p : Option Addr) (x29l x29c : Nat) (x30 x31 : Int) (h : Heap), (ln S0 [1, 1, 1, 1, 0, 1, 0, 0] (c1 S0 K) n (f7 x11 x12 x13 x29p x29l x29c x30 x31) h) = wL7 n x11 x12 x13 x29p x29l x29c x30 x31 h K
  | 0, _, _, _, _, _, _, _, _, _ => rfl
  | n + 1, x11, x12, x13, x29p, x29l, x29c, x30, x31, h => (EL7 S0 n x11 x12 x13 x29p x29l x29c x30 x31 h K).trans (cg2 (fun q0 q1 => JL7 q0 q1 x11 x12 x13 x29p x29l x29c x30 x31 h K) (by funext x11 x12 x13 x29p x29l x29c x30 x31 h; exact (fun x11 x12 x13 x29p x29l x29c x30 x31 h => eL7 K n x11 x12 x13 x29p x29l x29c x30 x31 h) x11 x12 x13 x29p x29l x29c x30 x31 h) (by funext x11 x12 x13 h; exact ek12 K x11 x12 x13 h))
def wk7 (x11 : Option Nat) (x12 : Int) (x13 : Bool) (x29p : Option Addr) (x29l x29c : Nat) (x30 x31 : Int) (h : Heap) (K : KK) : Prop :=
  Jk7 (fun x11 x12 x13 x29p x29l x29c x30 x31 h => ∃ m, wL7 m x11 x12 x13 x29p x29l x29c x30 x31 h K) x11 x12 x13 x29p x29l x29c x30 x31 h K
theorem ek7 (K : KK) (x11 : Option Nat) (x12 : Int) (x13 : Bool) (x29p : Option Addr) (x29l x29c : Nat) (x30 x31 : Int) (h : Heap) : (en S0 [1, 1, 1, 1, 0, 1] (c0 S0 K) (f7 x11 x12 x13 x29p x29l x29c x30 x31) h) = wk7 x11 x12 x13 x29p x29l x29c x30 x31 h K := (Ek7 S0 x11 x12 x13 x29p x29l x29c x30 x31 h K).trans (cg1 (fun q0 => Jk7 q0 x11 x12 x13 x29p x29l x29c x30 x31 h K) (by funext x11 x12 x13 x29p x29l x29c x30 x31 h; exact ex_congr fun m => eL7 K m x11 x12 x13 x29p x29l x29c x30 x31 h))
def w (x0 : Addr) (x1 : Int) (x2p : Option Addr) (x2l x2c : Nat) (h : Heap) (K : KK) : Prop :=
  J0 (fun x11 x12 x13 x29p x29l x29c x30 x31 h => wk7 x11 x12 x13 x29p x29l x29c x30 x31 h K) x0 x1 x2p x2l x2c h K
theorem e0 (K : KK) (x0 : Addr) (x1 : Int) (x2p : Option Addr) (x2l x2c : Nat) (h : Heap) : (E Tryz.prog X T S0 body (fin Tryz.prog Tryz.f17.results.toList K) (args0 0 [(.pointer (some x0)), (.int .u32 x1), (.slice x2p x2l x2c)]) h) = w x0 x1 x2p x2l x2c h K := (E0 S0 x0 x1 x2p x2l x2c h K).trans (cg1 (fun q0 => J0 q0 x0 x1 x2p x2l x2c h K) (by funext x11 x12 x13 x29p x29l x29c x30 x31 h; exact ek7 K x11 x12 x13 x29p x29l x29c x30 x31 h))
theorem hb : Tryz.f17.body = some body := by kernel_rfl
theorem ok : okCode T Tryz.f17.ntmps body = true := by kernel_rfl
theorem spec (x0 : Addr) (x1 : Int) (x2p : Option Addr) (x2l : Nat) (x2c : Nat) (h : Heap) (K : KK) (H : w x0 x1 x2p x2l x2c h K) : CallsH Tryz.prog 17 [(.pointer (some x0)), (.int .u32 x1), (.slice x2p x2l x2c)] h K :=
  calls_of_E (T := T) Xok mix Tryz.func17 hb ok rfl (by rw [e0]; exact H)
end F17
-- spinney/weigh.rising
namespace F42
def T : Hint := ⟨[], []⟩
noncomputable def body : Code := (Tryz.f42.body).getD .skip
def J0 (x0 : Addr) (x1 : Int) (h : Heap) (K : KK) : Prop :=
  CallsH Tryz.prog 39 [(.pointer (some x0)), (.int .u32 x1), (.slice none 0 0)] h (fun v1 h2 => ldM (some v1) (fun r3 => CallsH Tryz.prog 41 [(.map r3)] h2 (fun v4 h5 => ldV (some v4) (fun v6 => CallsH Tryz.prog 40 [v6] h5 (fun v7 h8 => ldS (some v7) (fun p9 l10 c11 => K (.slice p9 l10 c11) h8))))))
theorem E0 (S : Stop) (x0 : Addr) (x1 : Int) (h : Heap) (K : KK) : (E Tryz.prog X T S body (fin Tryz.prog Tryz.f42.results.toList K) (args0 0 [(.pointer (some x0)), (.int .u32 x1)]) h) = J0 x0 x1 h K := by kernel_rfl
def w (x0 : Addr) (x1 : Int) (h : Heap) (K : KK) : Prop :=
  J0 x0 x1 h K
theorem e0 (K : KK) (x0 : Addr) (x1 : Int) (h : Heap) : (E Tryz.prog X T S0 body (fin Tryz.prog Tryz.f42.results.toList K) (args0 0 [(.pointer (some x0)), (.int .u32 x1)]) h) = w x0 x1 h K := (E0 S0 x0 x1 h K).trans (rfl)
theorem hb : Tryz.f42.body = some body := by kernel_rfl
theorem ok : okCode T Tryz.f42.ntmps body = true := by kernel_rfl
theorem spec (x0 : Addr) (x1 : Int) (h : Heap) (K : KK) (H : w x0 x1 h K) : CallsH Tryz.prog 42 [(.pointer (some x0)), (.int .u32 x1)] h K :=
  calls_of_E (T := T) Xok mix Tryz.func42 hb ok rfl (by rw [e0]; exact H)
end F42
-- spinney/weigh.Sample
namespace F19
def T : Hint := ⟨[], []⟩
noncomputable def body : Code := (Tryz.f19.body).getD .skip
def J0 (x0 : Addr) (x1 x2 : Int) (h : Heap) (K : KK) : Prop :=
  CallsH Tryz.prog 21 [(.pointer (some x0)), (.int .u32 x1)] h (fun v1 h2 => ldB (some v1) (fun b3 => bcase (!b3) (K (.tuple #[(.int .u8 (0 : Int)), (.bool false), (.int .i64 (101 : Int))]) h2) (CallsH Tryz.prog 42 [(.pointer (some x0)), (.int .u32 x1)] h2 (fun v4 h5 => ldS (some v4) (fun p6 l7 _ => bcase (decide (x2 < (0 : Int))) (K (.tuple #[(.int .u8 (0 : Int)), (.bool false), (.int .i64 (0 : Int))]) h5) (bcase (decide (x2 ≥ (Nat.cast l7 : Int))) (K (.tuple #[(.int .u8 (0 : Int)), (.bool false), (.int .i64 (0 : Int))]) h5) (ptrK p6 (fun a9 => (0 ≤ x2 ∧ x2 < (Nat.cast l7 : Int) ∧ ldI .u8 (rd h5 (Addr.add a9 (Int.toNat x2 * 1))) (fun n10 => K (.tuple #[(.int .u8 n10), (.bool true), (.int .i64 (0 : Int))]) h5))))))))))
theorem E0 (S : Stop) (x0 : Addr) (x1 x2 : Int) (h : Heap) (K : KK) : (E Tryz.prog X T S body (fin Tryz.prog Tryz.f19.results.toList K) (args0 0 [(.pointer (some x0)), (.int .u32 x1), (.int .i64 x2)]) h) = J0 x0 x1 x2 h K := by kernel_rfl
def w (x0 : Addr) (x1 x2 : Int) (h : Heap) (K : KK) : Prop :=
  J0 x0 x1 x2 h K
theorem e0 (K : KK) (x0 : Addr) (x1 x2 : Int) (h : Heap) : (E Tryz.prog X T S0 body (fin Tryz.prog Tryz.f19.results.toList K) (args0 0 [(.pointer (some x0)), (.int .u32 x1), (.int .i64 x2)]) h) = w x0 x1 x2 h K := (E0 S0 x0 x1 x2 h K).trans (rfl)
theorem hb : Tryz.f19.body = some body := by kernel_rfl
theorem ok : okCode T Tryz.f19.ntmps body = true := by kernel_rfl
theorem spec (x0 : Addr) (x1 : Int) (x2 : Int) (h : Heap) (K : KK) (H : w x0 x1 x2 h K) : CallsH Tryz.prog 19 [(.pointer (some x0)), (.int .u32 x1), (.int .i64 x2)] h K :=
  calls_of_E (T := T) Xok mix Tryz.func19 hb ok rfl (by rw [e0]; exact H)
end F19
-- spinney/weigh.Rank
namespace F20
def T : Hint := ⟨[], []⟩
noncomputable def body : Code := (Tryz.f20.body).getD .skip
def J0 (x0 : Addr) (x1 x2 : Int) (h : Heap) (K : KK) : Prop :=
  CallsH Tryz.prog 21 [(.pointer (some x0)), (.int .u32 x1)] h (fun v1 h2 => ldB (some v1) (fun b3 => bcase (!b3) (K (.tuple #[(.int .i64 (0 : Int)), (.int .i64 (101 : Int))]) h2) (CallsH Tryz.prog 42 [(.pointer (some x0)), (.int .u32 x1)] h2 (fun v4 h5 => ldS (some v4) (fun p6 l7 c8 => CallsH Tryz.prog 43 [(.slice p6 l7 c8), (.int .u8 x2)] h5 (fun v9 h10 => (∃ n11 : Int, ∃ b12 : Bool, v9 = (.tuple #[(.int .i64 n11), (.bool b12)]) ∧ K (.tuple #[(.int .i64 n11), (.int .i64 (0 : Int))]) h10)))))))
theorem E0 (S : Stop) (x0 : Addr) (x1 x2 : Int) (h : Heap) (K : KK) : (E Tryz.prog X T S body (fin Tryz.prog Tryz.f20.results.toList K) (args0 0 [(.pointer (some x0)), (.int .u32 x1), (.int .u8 x2)]) h) = J0 x0 x1 x2 h K := by kernel_rfl
def w (x0 : Addr) (x1 x2 : Int) (h : Heap) (K : KK) : Prop :=
  J0 x0 x1 x2 h K
theorem e0 (K : KK) (x0 : Addr) (x1 x2 : Int) (h : Heap) : (E Tryz.prog X T S0 body (fin Tryz.prog Tryz.f20.results.toList K) (args0 0 [(.pointer (some x0)), (.int .u32 x1), (.int .u8 x2)]) h) = w x0 x1 x2 h K := (E0 S0 x0 x1 x2 h K).trans (rfl)
theorem hb : Tryz.f20.body = some body := by kernel_rfl
theorem ok : okCode T Tryz.f20.ntmps body = true := by kernel_rfl
theorem spec (x0 : Addr) (x1 : Int) (x2 : Int) (h : Heap) (K : KK) (H : w x0 x1 x2 h K) : CallsH Tryz.prog 20 [(.pointer (some x0)), (.int .u32 x1), (.int .u8 x2)] h K :=
  calls_of_E (T := T) Xok mix Tryz.func20 hb ok rfl (by rw [e0]; exact H)
end F20
end Go.Proofs.YtnbnlhpleomaoaaGreat.Ev
/- LOOPS OVER MAPS whose keys are whole numbers: the iterator, what it may still hand out. Conditions: the map stands (MapM). -/
namespace Go.Proofs.YtnbnlhpleomaoaaGreat.Ev
open Go
/-- block r walks over map b, whose entries are m; left may come still -/
def Rng (h : Heap) (r b : Nat) (k : IntKind) (m left : List (Int × Value)) : Prop :=
  ∃ es cl since seen last, mp h b = some (es, cl) ∧ es.toList.map (fun e => (e.key, e.val)) = m.map (fun p => (Value.int k p.1, p.2)) ∧ (es.toList.map (·.born)).Nodup ∧ h[r]? = some (.mapIter (some b) since seen last) ∧
    (∀ x ∈ es.toList, x.born < since) ∧ since ≤ last ∧ (leftOf es seen).toList.map (fun e => (e.key, e.val)) = left.map (fun p => (Value.int k p.1, p.2)) ∧ since ≤ cl
/-- where it stands -/
def RngAt (h : Heap) (r b : Nat) (k : IntKind) (x : Int) (v : Value) : Prop :=
  ∃ (es : Array MapEntry) (since : Nat) (seen : Array Nat) (cl : Nat) (e : MapEntry), h[r]? = some (.mapIter (some b) since (seen.push e.born) cl) ∧ mp h b = some (es, cl) ∧ e ∈ es.toList ∧ (es.toList.map (·.born)).Nodup ∧ e.key = .int k x ∧ e.val = v
theorem Rng.only {S : List Nat} {h h' : Heap} {r b : Nat} {k : IntKind} {m left : List (Int × Value)} (H : Rng h r b k m left) (O : Only S h h') (hr : r ∉ S) (hb : b ∉ S) : Rng h' r b k m left := by
  obtain ⟨es, cl, since, seen, last, h1, h2, h3, h4, h5⟩ := H
  refine ⟨es, cl, since, seen, last, ?_, h2, h3, ?_, h5⟩
  · have := mp_obj h1
    unfold mp
    rw [O.same b (Array.getElem?_eq_some_iff.1 this).1 hb, this]
  · rw [O.same r (Array.getElem?_eq_some_iff.1 h4).1 hr]
    exact h4
theorem Rng.lt {h : Heap} {r b : Nat} {k : IntKind} {m left : List (Int × Value)} (H : Rng h r b k m left) : r < h.size ∧ b < h.size := by
  obtain ⟨es, cl, since, seen, last, h1, h2, h3, h4, h5⟩ := H
  exact ⟨(Array.getElem?_eq_some_iff.1 h4).1, (Array.getElem?_eq_some_iff.1 (mp_obj h1)).1⟩
theorem Only.push_obj (h : Heap) (o : Obj) (ho : ∀ c e f, o ≠ .cells c e f) : Only [] h (h.push o) := by
  refine ⟨by simp, fun b hb _ => by simp [Array.getElem?_push, Nat.ne_of_lt hb], fun a => ?_⟩
  unfold fz
  rw [Array.getElem?_push]
  by_cases ha : a.block = h.size
  · rw [if_pos ha, ha]
    cases o <;> simp_all
  · rw [if_neg ha]
theorem Only.set_iter {h : Heap} {r : Nat} {m : Option Nat} {s : Nat} {seen : Array Nat} {l : Nat} (hr : h[r]? = some (.mapIter m s seen l)) (m' : Option Nat) (s' : Nat) (seen' : Array Nat) (l' : Nat) : Only [r] h (h.setIfInBounds r (.mapIter m' s' seen' l')) := by
  have hlt := (Array.getElem?_eq_some_iff.1 hr).1
  refine ⟨by simp, fun b hb hS => ?_, fun a => ?_⟩
  · have : r ≠ b := fun e => hS (by simp [e])
    rw [Array.getElem?_setIfInBounds, if_neg this]
  · unfold fz
    rw [Array.getElem?_setIfInBounds]
    by_cases ha : r = a.block
    · rw [if_pos ha, if_pos hlt, ← ha, hr]
    · rw [if_neg ha]
theorem rng_start {h : Heap} {b : Nat} {k : IntKind} {m : List (Int × Value)} {K : Option Addr → Heap → Prop} (H : MapM h b k m)
    (hK : ∀ h', Rng h' h.size b k m m → Only [] h h' → h'.size = h.size + 1 → K (some ⟨h.size, 0, none⟩) h') : rngK h (some b) K := by
  obtain ⟨es, cl, h1, h2, h3, h4, h5⟩ := H
  have hb := mp_obj h1
  have hlt := (Array.getElem?_eq_some_iff.1 hb).1
  refine ⟨es, cl, h1, hK _ ⟨es, cl, cl, #[], cl, ?_, h2, h4, by simp, h5, Nat.le_refl _, ?_, Nat.le_refl _⟩ (Only.push_obj _ _ (by simp)) (by simp)⟩
  · unfold mp
    rw [Array.getElem?_push, if_neg (Nat.ne_of_lt hlt), hb]
  · rw [← h2]
    unfold leftOf
    rw [Array.toList_filter, List.filter_eq_self.2 (by simp)]
theorem rng_next {h : Heap} {r b : Nat} {k : IntKind} {m left : List (Int × Value)} {K0 : Prop} {K1 : Value → Value → Heap → Prop} (H : Rng h r b k m left) (hrb : r ≠ b) (h0 : left = [] → K0)
    (h1 : ∀ A x v B h', left = A ++ (x, v) :: B → Rng h' r b k m (A ++ B) → RngAt h' r b k x v → Only [r] h h' → h'.size = h.size → K1 (.int k x) v h') : nxtK h (some ⟨r, 0, none⟩) K0 K1 := by
  obtain ⟨es, cl, since, seen, last, g1, g2, g3, g4, g5, g6, g7, g8⟩ := H
  refine ⟨rfl, some b, since, seen, last, g4, es, cl, g1, g5, g6, fun hz => h0 ?_, fun e he => ?_⟩
  · have hl : (leftOf es seen).toList = [] := by
      apply List.eq_nil_of_length_eq_zero
      simpa using hz
    rw [hl] at g7
    cases left with
    | nil => rfl
    | cons a l => simp at g7
  · obtain ⟨A', B', eL⟩ := List.append_of_mem he
    rw [eL, List.map_append, List.map_cons] at g7
    obtain ⟨A, C, e1, e2, e3⟩ := List.map_eq_append_iff.1 g7.symm
    obtain ⟨⟨x, v⟩, B, e4, e5, e6⟩ := List.map_eq_cons_iff.1 e3
    subst e4 e1
    simp only [Prod.mk.injEq] at e5
    have hsub : (leftOf es seen).toList.Sublist es.toList := by unfold leftOf; rw [Array.toList_filter]; exact List.filter_sublist
    have hnd : ((A' ++ e :: B').map (·.born)).Nodup := by rw [← eL]; exact g3.sublist (hsub.map _)
    have hlt := (Array.getElem?_eq_some_iff.1 g4).1
    have hit : (h.setIfInBounds r (.mapIter (some b) since (seen.push e.born) cl))[r]? = some (.mapIter (some b) since (seen.push e.born) cl) := by
      rw [Array.getElem?_setIfInBounds, if_pos rfl, if_pos hlt]
    have hmp : mp (h.setIfInBounds r (.mapIter (some b) since (seen.push e.born) cl)) b = some (es, cl) := by
      unfold mp
      rw [Array.getElem?_setIfInBounds, if_neg hrb, mp_obj g1]
    have hK := h1 A x v B (h.setIfInBounds r (.mapIter (some b) since (seen.push e.born) cl)) rfl ⟨es, cl, since, seen.push e.born, cl, hmp, g2, g3, hit, g5, g8, ?_, g8⟩
      ⟨es, since, seen, cl, e, hit, hmp, hsub.subset he, g3, e5.1.symm, e5.2.symm⟩ (Only.set_iter g4 _ _ _ _) (by simp)
    · rw [← e5.1, ← e5.2]
      exact hK
    · have hf : (leftOf es (seen.push e.born)).toList = A' ++ B' := by
        have h2 : (leftOf es (seen.push e.born)).toList = (leftOf es seen).toList.filter fun y => !(y.born == e.born) := by
          unfold leftOf
          rw [Array.toList_filter, Array.toList_filter, List.filter_filter]
          apply List.filter_congr
          intro y _
          simp only [Array.contains_push]
          cases h : seen.contains y.born <;> cases h' : (y.born == e.born) <;> simp_all
        rw [h2, eL]
        rw [List.map_append, List.map_cons, List.nodup_append] at hnd
        obtain ⟨n1, n2, n3⟩ := hnd
        rw [List.nodup_cons] at n2
        rw [List.filter_append, List.filter_cons]
        simp only [beq_self_eq_true, Bool.not_true, Bool.false_eq_true, if_false]
        rw [List.filter_eq_self.2 fun y hy => ?_, List.filter_eq_self.2 fun y hy => ?_]
        · have : y.born ≠ e.born := fun e' => n2.1 (e' ▸ List.mem_map.2 ⟨y, hy, rfl⟩)
          simpa using this
        · have : y.born ≠ e.born := fun e' => n3 y.born (List.mem_map.2 ⟨y, hy, rfl⟩) e.born (by simp) e'
          simpa using this
      rw [hf, List.map_append, List.map_append, e2, e6]
theorem rng_entry {h : Heap} {r b : Nat} {k : IntKind} {x : Int} {v : Value} {K : Value → Value → Prop} (H : RngAt h r b k x v) (hK : K (.int k x) v) : entrK h (some ⟨r, 0, none⟩) K := by
  obtain ⟨es, since, seen, cl, e, h1, h2, h3, h4, h5, h6⟩ := H
  refine ⟨rfl, b, since, seen.push e.born, cl, es, e.born, e, h1, by simp, h2, ?_, by rw [h5, h6]; exact hK⟩
  rw [← Array.find?_toList]
  exact find_born e es.toList h4 h3
end Go.Proofs.YtnbnlhpleomaoaaGreat.Ev
/- WEIGHTS (package weigh): costs, all, refuses. Conditions: the store stands, the costs are few and in their bounds. -/
namespace Go.Proofs.YtnbnlhpleomaoaaGreat.Ev
open Go
/-- what an assignment costs -/
def cst (c : List Int) (x : Nat) : Nat → Int
  | 0 => 0
  | v + 1 => cst c x v + if x.testBit v then c.getD v 0 else 0
def COk (c : List Int) : Prop := c.length ≤ 8 ∧ ∀ z ∈ c, -1000 ≤ z ∧ z ≤ 1000
theorem COk.get {c : List Int} (H : COk c) (v : Nat) : -1000 ≤ c.getD v 0 ∧ c.getD v 0 ≤ 1000 := by
  by_cases h : v < c.length
  · rw [show c.getD v 0 = c[v] by simp [List.getD, h]]
    exact H.2 _ (List.getElem_mem h)
  · rw [List.getD_eq_getElem?_getD, List.getElem?_eq_none (by omega)]
    simp
theorem cst_bound {c : List Int} (H : COk c) (x : Nat) : ∀ v : Nat, -1000 * (v : Int) ≤ cst c x v ∧ cst c x v ≤ 1000 * (v : Int)
  | 0 => by simp [cst]
  | v + 1 => by
    have ih := cst_bound H x v
    have hg := H.get v
    unfold cst
    split <;> omega
/-- the assignments below k at which p holds -/
def trs (p : Nat → Bool) (k : Nat) : List Nat := (List.range k).filter p
theorem trs_succ (p : Nat → Bool) (k : Nat) : trs p (k + 1) = trs p k ++ if p k then [k] else [] := by
  unfold trs
  rw [List.range_succ, List.filter_append]
  cases h : p k <;> simp [h]
def cmap (c : List Int) (l : List Nat) : List (Int × Value) := l.map fun (x : Nat) => ((x : Int), Value.int .i64 (cst c x c.length))
theorem cmap_app (c : List Int) (l m : List Nat) : cmap c (l ++ m) = cmap c l ++ cmap c m := by simp [cmap]
theorem cmap_none {c : List Int} {p : Nat → Bool} {k : Nat} : (cmap c (trs p k)).lookup (k : Int) = none := by
  rw [lookup_none]
  intro hm
  simp only [cmap, List.map_map, List.mem_map, Function.comp, trs, List.mem_filter, List.mem_range] at hm
  obtain ⟨x, ⟨hx, -⟩, e⟩ := hm
  omega
theorem bit_i : ∀ y : Fin 256, ∀ v : Fin 8, bitsI .and .i64 (Int.fdiv ((y.1 : Nat) : Int) (2 ^ (min (Int.toNat ((v.1 : Nat) : Int)) (IntKind.bits .i64)))) 1 = if y.1.testBit v.1 then 1 else 0 := by decide +kernel
theorem go62 : xget X 62 = some Ext.go := by kernel_rfl
theorem holds62 {h : Heap} {s a x : Nat} {L : List Nat} {X : SX} {K : Value → Heap → Prop} (H : Sto h s L X) (hf : ∀ j, j < X.n → X.f j < 8) (ha : isN X.N a) (hx : x < 256) (hK : ∀ h', Only [] h h' → K (.bool (sm X.n X.f X.N a x)) h') :
    CallsH Tryz.prog 62 [.agg #[.pointer (some ⟨s, 0, none⟩), .int .u32 (a : Int)], .int .u8 (x : Int)] h K := by
  refine F62.spec _ _ _ h K ?_
  unfold F62.w F62.J0
  refine newK_at fun h1 A1 O1 z1 => ?_
  simp only [add_mk, Nat.zero_add]
  refine ldP_of (by rw [A1.rd]; rfl) (ldI_of (by rw [A1.rd]; rfl) ?_)
  exact eval80 (H.only0 O1) hf ha hx fun h' O => ⟨_, _, rfl, hK h' (O1.trans O (by simp))⟩
def lkr (s a : Nat) : Value := .func (.func 62) #[.agg #[.pointer (some ⟨s, 0, none⟩), .int .u32 (a : Int)]] #[]
theorem two_pow_le {n : Nat} (h : n ≤ 8) : 2 ^ n ≤ 256 := by
  have : 2 ^ n ≤ 2 ^ 8 := Nat.pow_le_pow_right (by omega) h
  omega
set_option maxRecDepth 100000 in
theorem costs61 {h : Heap} {s a cc : Nat} {L : List Nat} {X : SX} {cp : Option Addr} {c : List Int} {K : Value → Heap → Prop} (H : Sto h s L X) (hf : ∀ j, j < X.n → X.f j < 8) (ha : isN X.N a) (hc : Ints h .i64 cp c) (hco : COk c)
    (hK : ∀ h' b, MapM h' b .u8 (cmap c (trs (sm X.n X.f X.N a) (2 ^ X.n))) → Only [] h h' → h.size ≤ b → K (.map (some b)) h') :
    CallsH Tryz.prog 61 [.int .i64 (X.n : Int), lkr s a, .slice cp c.length cc] h K := by
  have ok := H.ok
  have hp := two_pow_le ok.2.2.1
  refine F61.spec _ _ _ _ _ h K ?_
  unfold F61.w F61.J0
  refine newK_map4 (k := .u8) fun h1 M1 O1 z1 => ⟨by omega, ?_⟩
  have e2 : IntKind.wrap .i64 (1 * 2 ^ (min (Int.toNat (X.n : Int)) (IntKind.bits .i64))) = ((2 ^ X.n : Nat) : Int) := by
    rw [show min (Int.toNat (X.n : Int)) (IntKind.bits .i64) = X.n by
      rw [Int.toNat_natCast]
      show min X.n 64 = X.n
      omega, Int.one_mul, show ((2 : Int) ^ X.n) = ((2 ^ X.n : Nat) : Int) by simp]
    generalize 2 ^ X.n = q at hp
    exact wrap_i64 (by omega) (by omega)
  rw [e2]
  unfold F61.wk3 F61.Jk3
  have main : ∀ (d x : Nat) (h' : Heap), x + d = 2 ^ X.n → MapM h' h.size .u8 (cmap c (trs (sm X.n X.f X.N a) x)) → Only [] h h' → F61.wL3 (d + 1) (lkr s a) cp c.length cc (some h.size) ((2 ^ X.n : Nat) : Int) (x : Int) h' K := by
    intro d
    induction d with
    | zero =>
      intro x h' hd M O
      unfold F61.wL3 F61.JL3
      rw [decide_eq_false (by omega), bcase_false]
      have e : x = 2 ^ X.n := by omega
      subst e
      exact hK h' _ M O (Nat.le_refl _)
    | succ d ih =>
      intro x h' hd M O
      unfold F61.wL3 F61.JL3
      rw [decide_eq_true (by omega), bcase_true, show IntKind.wrap .u8 (x : Int) = (x : Int) from wrap8 (by omega)]
      unfold lkr
      refine dynK_go go62 ?_
      have ew : IntKind.wrap .i64 ((x : Int) + 1) = ((x + 1 : Nat) : Int) := by rw [wrap_i64 (by omega) (by omega)]; omega
      refine holds62 (H.only0 O) hf ha (by omega) fun h2 O2 => ldB_of rfl ?_
      have O12 := O.trans O2 (by simp)
      have M2 := M.only O2 (by simp)
      refine bcase_of (fun hb => ?_) fun hb => ?_
      · have hb : sm X.n X.f X.N a x = false := by simpa using hb
        have := ih (x + 1) h2 (by omega) (by rw [trs_succ, hb]; simpa using M2) O12
        rw [ew]
        exact this
      · have hb : sm X.n X.f X.N a x = true := by simpa using hb
        unfold F61.wk8 F61.Jk8
        have inner : ∀ (d2 v : Nat), v + d2 = c.length → ∀ bk : Value → Option Addr → Nat → Nat → Option Nat → Int → Int → Heap → Prop, bk = (fun x1 x2p x2l x2c x7 x14 x15 h => F61.wL3 (d + 1) x1 x2p x2l x2c x7 x14 x15 h K) →
            F61.wL8 bk (d2 + 1) (lkr s a) cp c.length cc (some h.size) (x : Int) (cst c x v) ((2 ^ X.n : Nat) : Int) (x : Int) cp c.length cc (c.length : Int) (v : Int) h2 K := by
          intro d2
          induction d2 with
          | zero =>
            intro v hv bk ebk
            unfold F61.wL8 F61.JL8
            rw [decide_eq_false (by omega), bcase_false]
            unfold F61.wk12 F61.Jk12
            dsimp only
            rw [show IntKind.wrap .u8 (x : Int) = (x : Int) from wrap8 (by omega)]
            refine upd_map M2 fun h3 M3 O3 z3 => ?_
            subst ebk
            dsimp only
            rw [ew]
            have lt := M2.lt
            refine ih (x + 1) h3 (by omega) ?_ (O12.trans O3 (by intro b hb hl; simp at hb; omega))
            rw [trs_succ, hb, if_pos rfl, cmap_app]
            unfold mset at M3
            rw [cmap_none] at M3
            have hv : v = c.length := by omega
            subst hv
            exact M3
          | succ d2 ih2 =>
            intro v hv bk ebk
            have hvl : v < c.length := by omega
            obtain ⟨ad, e1, r1⟩ := (hc.only' O12 (by simp)) v hvl
            unfold F61.wL8 F61.JL8
            rw [decide_eq_true (by omega), bcase_true, e1, ptrK_some]
            refine ⟨by omega, by omega, ?_⟩
            rw [← e1, Nat.mul_one, Int.toNat_natCast, r1]
            refine ldI_of rfl ⟨by omega, ?_⟩
            have := hco.1
            have hg := hco.get v
            have hb2 := cst_bound hco x v
            have eb := bit_i ⟨x, by omega⟩ ⟨v, by omega⟩
            dsimp only at eb
            rw [Int.toNat_natCast] at eb
            rw [eb]
            have ev : IntKind.wrap .i64 ((v : Int) + 1) = ((v + 1 : Nat) : Int) := by rw [wrap_i64 (by omega) (by omega)]; omega
            have es : IntKind.wrap .i64 (cst c x v + IntKind.wrap .i64 ((if x.testBit v then (1 : Int) else 0) * c.getD v 0)) = cst c x (v + 1) := by
              have e3 : (if x.testBit v then (1 : Int) else 0) * c.getD v 0 = if x.testBit v then c.getD v 0 else 0 := by split <;> simp
              rw [e3]
              rw [show cst c x (v + 1) = cst c x v + if x.testBit v then c.getD v 0 else 0 from rfl]
              have e4 : -1000 ≤ (if x.testBit v then c.getD v 0 else 0) ∧ (if x.testBit v then c.getD v 0 else 0) ≤ 1000 := by split <;> omega
              rw [wrap_i64 (n := if x.testBit v then c.getD v 0 else 0) (by omega) (by omega), wrap_i64 (by omega) (by omega)]
            rw [ev, es]
            exact ih2 (v + 1) (by omega) bk ebk
        exact ⟨_, inner c.length 0 (by omega) _ rfl⟩
  exact ⟨_, main (2 ^ X.n) 0 h1 (by omega) M1 O1⟩
theorem all39 {h : Heap} {s a cc : Nat} {L : List Nat} {X : SX} {cp : Option Addr} {c : List Int} {K : Value → Heap → Prop} (H : Sto h s L X) (hf : ∀ j, j < X.n → X.f j < 8) (ha : isN X.N a) (hc : Ints h .i64 cp c) (hco : COk c)
    (hK : ∀ h' b, MapM h' b .u8 (cmap c (trs (sm X.n X.f X.N a) (2 ^ X.n))) → Only [] h h' → h.size ≤ b → K (.map (some b)) h') :
    CallsH Tryz.prog 39 [.pointer (some ⟨s, 0, none⟩), .int .u32 (a : Int), .slice cp c.length cc] h K := by
  refine F39.spec _ _ _ _ _ h K ?_
  unfold F39.w F39.J0
  refine sto_vars H (ldI_of rfl ?_)
  exact costs61 H hf ha hc hco fun h' b M O g => ⟨_, rfl, hK h' b M O g⟩
theorem go60 : xget X 60 = some Ext.go := by kernel_rfl
/-- does a cost lie out of its bounds? -/
def badC (c : List Int) : Bool := c.any fun z => decide (z < -1000) || decide (z > 1000)
theorem any_bad {h : Heap} {cp : Option Addr} {cc : Nat} {c : List Int} {K : Value → Heap → Prop} (hl : c.length < 1000000000) (hc : Ints h .i64 cp c) (hK : K (.bool (badC c)) h) :
    CallsH Tryz.prog 59 [.slice cp c.length cc, .func (.func 60) #[] #[]] h K := by
  refine F59.spec _ _ _ _ h K ?_
  unfold F59.w F59.J0
  refine F79.spec _ _ _ _ h _ ?_
  unfold F79.w F79.J0 F79.wk2 F79.Jk2
  have main : ∀ (d i : Nat), i + d = c.length → (∀ j, j < i → (decide (c.getD j 0 < -1000) || decide (c.getD j 0 > 1000)) = false) → F79.wL2 (d + 1) cp c.length cc (.func (.func 60) #[] #[]) (c.length : Int) (i : Int) h fun v1 h2 => ldI .i64 (some v1) (fun n3 => K (.bool (decide (n3 ≥ (0 : Int)))) h2) := by
    intro d
    induction d with
    | zero =>
      intro i hd hj
      unfold F79.wL2 F79.JL2
      rw [decide_eq_false (by omega), bcase_false]
      refine ldI_of rfl ?_
      have e : badC c = false := by
        unfold badC
        rw [List.any_eq_false]
        intro z hz
        obtain ⟨j, hj', rfl⟩ := List.mem_iff_getElem.1 hz
        have := hj j (by omega)
        rw [show c.getD j 0 = c[j] by simp [List.getD, hj']] at this
        simp only [this]
        simp
      rw [e] at hK
      exact hK
    | succ d ih =>
      intro i hd hj
      have hi : i < c.length := by omega
      obtain ⟨ad, e1, r1⟩ := hc i hi
      unfold F79.wL2 F79.JL2
      rw [decide_eq_true (by omega), bcase_true, e1, ptrK_some]
      refine ⟨by omega, by omega, ?_⟩
      rw [← e1, Nat.mul_one, Int.toNat_natCast, r1]
      refine ldI_of rfl (dynK_go go60 ?_)
      refine F60.spec _ h _ ?_
      unfold F60.w F60.J0
      have step : (decide (c.getD i 0 < -1000) || decide (c.getD i 0 > 1000)) = true → K (.bool true) h := fun e => by
        have e' : badC c = true := by
          unfold badC
          rw [List.any_eq_true]
          refine ⟨c[i], List.getElem_mem hi, ?_⟩
          rw [show c.getD i 0 = c[i] by simp [List.getD, hi]] at e
          exact e
        rw [e'] at hK
        exact hK
      refine bcase_of (fun hb => ldB_of rfl ?_) fun hb => ldB_of rfl ?_
      · rw [bcase_true]
        refine ldI_of rfl ?_
        rw [decide_eq_true (by omega)]
        exact step (by rw [hb]; rfl)
      · refine bcase_of (fun hb2 => ldI_of rfl ?_) fun hb2 => ?_
        · rw [decide_eq_true (by omega)]
          exact step (by rw [hb2]; simp)
        · rw [show IntKind.wrap .i64 ((i : Int) + 1) = ((i + 1 : Nat) : Int) by rw [wrap_i64 (by omega) (by omega)]; omega]
          refine ih (i + 1) (by omega) fun j hj' => ?_
          by_cases e : j = i
          · subst e
            rw [hb, hb2]
            rfl
          · exact hj j (by omega)
  exact ⟨_, main c.length 0 (by omega) fun j hj => by omega⟩
theorem refuses38 {h : Heap} {s a cc : Nat} {L : List Nat} {X : SX} {cp : Option Addr} {c : List Int} {K : Value → Heap → Prop} (H : Sto h s L X) (ha : a < 4294967296) (hl : c.length < 1000000000) (hc : Ints h .i64 cp c)
    (h0 : ¬ isN X.N a → K (.int .i64 101) h) (h1 : isN X.N a → (c.length ≠ X.n ∨ badC c = true) → K (.int .i64 40) h) (h2 : isN X.N a → c.length = X.n → badC c = false → K (.int .i64 0) h) :
    CallsH Tryz.prog 38 [.pointer (some ⟨s, 0, none⟩), .int .u32 (a : Int), .slice cp c.length cc] h K := by
  refine F38.spec _ _ _ _ _ h K ?_
  unfold F38.w F38.J0
  refine sto_is H ha (fun hn => ldB_of rfl ?_) fun hn => ldB_of rfl ?_
  · rw [Bool.not_true, bcase_false]
    refine sto_vars H (ldI_of rfl (bcase_of (fun e => ?_) fun e => ?_))
    · exact h1 hn (.inl (by intro e'; rw [e'] at e; simp at e))
    · have e : c.length = X.n := by
        have : ((c.length : Nat) : Int) = X.n := by simpa using e
        omega
      refine any_bad hl hc (ldB_of rfl (bcase_of (fun e' => h1 hn (.inr e')) fun e' => h2 hn e e'))
  · rw [Bool.not_false, bcase_true]
    exact h0 hn
theorem cok_of {c : List Int} (h : c.length ≤ 8) (hb : badC c = false) : COk c := by
  refine ⟨h, fun z hz => ?_⟩
  unfold badC at hb
  rw [List.any_eq_false] at hb
  have := hb z hz
  simp at this
  omega
end Go.Proofs.YtnbnlhpleomaoaaGreat.Ev
/- PRINTED BY PROGRAM: what each of these functions does, computed over heaps by the evaluator, and that its calls do so. Conditions: none. -/
namespace Go.Proofs.YtnbnlhpleomaoaaGreat.Ev
open Go
-- spinney/weigh.Sum
namespace F18
def XX : List (Nat × Ext) := (1000023, .ent 5 3) :: X
theorem XXok : XOk Tryz.prog XX := Xok.ent
def T : Hint := ⟨[(6, [9, 23])], []⟩
noncomputable def body : Code := (Tryz.f18.body).getD .skip
noncomputable def en (S : Stop) (p : List Nat) (κ : XK) : Fr → Heap → Prop := E Tryz.prog XX T S (sub body p) κ
noncomputable def ln (S : Stop) (p : List Nat) (κ : XK) (n : Nat) : Fr → Heap → Prop := loopN S (E Tryz.prog XX T S (sub body p)) (cutQ T (sub body p)) κ n
def fn (K : KK) : XK := fin Tryz.prog Tryz.f18.results.toList K
noncomputable def c0 (S : Stop) (K : KK) : XK := seqN S (cutQ T (sub body [1, 1, 1, 1])) (en S [1, 1, 1, 1] (fn K)) (fn K)
noncomputable def c1 (S : Stop) (K : KK) : XK := blockN 0 (c0 S K)
noncomputable def c2 (S : Stop) (n6 : Nat) (K : KK) : XK := backN S (cutQ T (sub body [1, 1, 1, 0, 1, 0, 0])) (ln S [1, 1, 1, 0, 1, 0, 0] (c1 S K) n6) (c1 S K)
def f6 (x9 : Int) (x23 : Option Addr) : Fr := [(9, (.int .i64 x9)), (23, (.pointer x23))]
def J0 (k6 : Int → (Option Addr) → Heap → Prop) (x0 : Addr) (x1 : Int) (x2p : Option Addr) (x2l x2c : Nat) (h : Heap) (K : KK) : Prop :=
  CallsH Tryz.prog 38 [(.pointer (some x0)), (.int .u32 x1), (.slice x2p x2l x2c)] h (fun v1 h2 => ldI .i64 (some v1) (fun n3 => bcase (n3 != (0 : Int)) (K (.tuple #[(.int .i64 (0 : Int)), (.int .i64 n3)]) h2) (CallsH Tryz.prog 39 [(.pointer (some x0)), (.int .u32 x1), (.slice x2p x2l x2c)] h2 (fun v4 h5 => ldM (some v4) (fun r6 => rngK h5 r6 (fun p7 h8 => k6 (0 : Int) p7 h8))))))
theorem E0 (S : Stop) (x0 : Addr) (x1 : Int) (x2p : Option Addr) (x2l x2c : Nat) (h : Heap) (K : KK) : (E Tryz.prog XX T S body (fin Tryz.prog Tryz.f18.results.toList K) (args0 0 [(.pointer (some x0)), (.int .u32 x1), (.slice x2p x2l x2c)]) h) = J0 (fun x9 x23 h => S (en S [1, 1, 1, 0, 1] (c0 S K)) (f6 x9 x23) h) x0 x1 x2p x2l x2c h K := by kernel_rfl
def Jk6 (lp6 : Int → (Option Addr) → Heap → Prop) (x9 : Int) (x23 : Option Addr) (h : Heap) (_K : KK) : Prop :=
  lp6 x9 x23 h
theorem Ek6 (S : Stop) (x9 : Int) (x23 : Option Addr) (h : Heap) (K : KK) : (en S [1, 1, 1, 0, 1] (c0 S K) (f6 x9 x23) h) = Jk6 (fun x9 x23 h => ∃ n, S (ln S [1, 1, 1, 0, 1, 0, 0] (c1 S K) n) (f6 x9 x23) h) x9 x23 h K := by kernel_rfl
def JL6 (bk6 : Int → (Option Addr) → Heap → Prop) (x9 : Int) (x23 : Option Addr) (h : Heap) (K : KK) : Prop :=
  nxtK h x23 (K (.tuple #[(.int .i64 x9), (.int .i64 (0 : Int))]) h) (fun _ _ h3 => entrK h3 x23 (fun v4 v5 => (∃ n7 : Int, ∃ n8 : Int, (.tuple #[v4, v5]) = ((.tuple #[(.int .u8 n7), (.int .i64 n8)]) : Value) ∧ bk6 (IntKind.wrap .i64 (x9 + n8)) x23 h3)))
theorem EL6 (S : Stop) (n6 : Nat) (x9 : Int) (x23 : Option Addr) (h : Heap) (K : KK) : (en S [1, 1, 1, 0, 1, 0, 0] (c2 S n6 K) (f6 x9 x23) h) = JL6 (fun x9 x23 h => S (ln S [1, 1, 1, 0, 1, 0, 0] (c1 S K) n6) (f6 x9 x23) h) x9 x23 h K := by kernel_rfl
def wL6 : Nat → Int → (Option Addr) → Heap → KK → Prop
  | 0, _, _, _, _ => False
  | n + 1, x9, x23, h, K => JL6 (fun x9 x23 h => wL6 n x9 x23 h K) x9 x23 h K
theorem eL6 (K : KK) : ∀ (n : Nat) (x9 : Int) (x23 : Option Addr) (h : Heap), (ln S0 [1, 1, 1, 0, 1, 0, 0] (c1 S0 K) n (f6 x9 x23) h) = wL6 n x9 x23 h K
  | 0, _, _, _ => rfl
  | n + 1, x9, x23, h => (EL6 S0 n x9 x23 h K).trans (cg1 (fun q0 => JL6 q0 x9 x23 h K) (by funext x9 x23 h; exact (fun x9 x23 h => eL6 K n x9 x23 h) x9 x23 h))
def wk6 (x9 : Int) (x23 : Option Addr) (h : Heap) (K : KK) : Prop :=
  Jk6 (fun x9 x23 h => ∃ m, wL6 m x9 x23 h K) x9 x23 h K
theorem ek6 (K : KK) (x9 : Int) (x23 : Option Addr) (h : Heap) : (en S0 [1, 1, 1, 0, 1] (c0 S0 K) (f6 x9 x23) h) = wk6 x9 x23 h K := (Ek6 S0 x9 x23 h K).trans (cg1 (fun q0 => Jk6 q0 x9 x23 h K) (by funext x9 x23 h; exact ex_congr fun m => eL6 K m x9 x23 h))
def w (x0 : Addr) (x1 : Int) (x2p : Option Addr) (x2l x2c : Nat) (h : Heap) (K : KK) : Prop :=
  J0 (fun x9 x23 h => wk6 x9 x23 h K) x0 x1 x2p x2l x2c h K
theorem e0 (K : KK) (x0 : Addr) (x1 : Int) (x2p : Option Addr) (x2l x2c : Nat) (h : Heap) : (E Tryz.prog XX T S0 body (fin Tryz.prog Tryz.f18.results.toList K) (args0 0 [(.pointer (some x0)), (.int .u32 x1), (.slice x2p x2l x2c)]) h) = w x0 x1 x2p x2l x2c h K := (E0 S0 x0 x1 x2p x2l x2c h K).trans (cg1 (fun q0 => J0 q0 x0 x1 x2p x2l x2c h K) (by funext x9 x23 h; exact ek6 K x9 x23 h))
theorem hb : Tryz.f18.body = some body := by kernel_rfl
theorem ok : okCode T Tryz.f18.ntmps body = true := by kernel_rfl
theorem spec (x0 : Addr) (x1 : Int) (x2p : Option Addr) (x2l : Nat) (x2c : Nat) (h : Heap) (K : KK) (H : w x0 x1 x2p x2l x2c h K) : CallsH Tryz.prog 18 [(.pointer (some x0)), (.int .u32 x1), (.slice x2p x2l x2c)] h K :=
  calls_of_E (T := T) XXok mix Tryz.func18 hb ok rfl (by rw [e0]; exact H)
end F18
end Go.Proofs.YtnbnlhpleomaoaaGreat.Ev
/- PRINTED BY PROGRAM: what each of these functions does, computed over heaps by the evaluator, and that its calls do so. Conditions: none. -/
namespace Go.Proofs.YtnbnlhpleomaoaaGreat.Ev
open Go
-- slices.BinarySearch[[]uint8,uint8]
namespace F43
def T : Hint := ⟨[(3, [0, 1, 6, 7, 8]), (8, [0, 1, 6, 7])], []⟩
noncomputable def body : Code := (Tryz.f43.body).getD .skip
noncomputable def en (S : Stop) (p : List Nat) (κ : XK) : Fr → Heap → Prop := E Tryz.prog X T S (sub body p) κ
noncomputable def ln (S : Stop) (p : List Nat) (κ : XK) (n : Nat) : Fr → Heap → Prop := loopN S (E Tryz.prog X T S (sub body p)) (cutQ T (sub body p)) κ n
def fn (K : KK) : XK := fin Tryz.prog Tryz.f43.results.toList K
noncomputable def c0 (S : Stop) (K : KK) : XK := seqN S (cutQ T (sub body [1, 1, 1, 1])) (en S [1, 1, 1, 1] (fn K)) (fn K)
noncomputable def c1 (S : Stop) (K : KK) : XK := blockN 0 (c0 S K)
noncomputable def c2 (S : Stop) (n3 : Nat) (K : KK) : XK := backN S (cutQ T (sub body [1, 1, 1, 0, 0, 0])) (ln S [1, 1, 1, 0, 0, 0] (c1 S K) n3) (c1 S K)
def f3 (x0p : Option Addr) (x0l x0c : Nat) (x1 x6 x7 x8 : Int) : Fr := [(0, (.slice x0p x0l x0c)), (1, (.int .u8 x1)), (6, (.int .i64 x6)), (7, (.int .i64 x7)), (8, (.int .i64 x8))]
def f8 (x0p : Option Addr) (x0l x0c : Nat) (x1 x6 x7 : Int) : Fr := [(0, (.slice x0p x0l x0c)), (1, (.int .u8 x1)), (6, (.int .i64 x6)), (7, (.int .i64 x7))]
def J0 (k3 : (Option Addr) → Nat → Nat → Int → Int → Int → Int → Heap → Prop) (x0p : Option Addr) (x0l x0c : Nat) (x1 : Int) (h : Heap) (_K : KK) : Prop :=
  k3 x0p x0l x0c x1 (Nat.cast x0l : Int) (0 : Int) (Nat.cast x0l : Int) h
theorem E0 (S : Stop) (x0p : Option Addr) (x0l x0c : Nat) (x1 : Int) (h : Heap) (K : KK) : (E Tryz.prog X T S body (fin Tryz.prog Tryz.f43.results.toList K) (args0 0 [(.slice x0p x0l x0c), (.int .u8 x1)]) h) = J0 (fun x0p x0l x0c x1 x6 x7 x8 h => S (en S [1, 1, 1] (fn K)) (f3 x0p x0l x0c x1 x6 x7 x8) h) x0p x0l x0c x1 h K := by kernel_rfl
def Jk3 (lp3 : (Option Addr) → Nat → Nat → Int → Int → Int → Int → Heap → Prop) (x0p : Option Addr) (x0l x0c : Nat) (x1 x6 x7 x8 : Int) (h : Heap) (_K : KK) : Prop :=
  lp3 x0p x0l x0c x1 x6 x7 x8 h
theorem Ek3 (S : Stop) (x0p : Option Addr) (x0l x0c : Nat) (x1 x6 x7 x8 : Int) (h : Heap) (K : KK) : (en S [1, 1, 1] (fn K) (f3 x0p x0l x0c x1 x6 x7 x8) h) = Jk3 (fun x0p x0l x0c x1 x6 x7 x8 h => ∃ n, S (ln S [1, 1, 1, 0, 0, 0] (c1 S K) n) (f3 x0p x0l x0c x1 x6 x7 x8) h) x0p x0l x0c x1 x6 x7 x8 h K := by kernel_rfl
def JL3 (bk3 : (Option Addr) → Nat → Nat → Int → Int → Int → Int → Heap → Prop) (k8 : (Option Addr) → Nat → Nat → Int → Int → Int → Heap → Prop) (x0p : Option Addr) (x0l x0c : Nat) (x1 x6 x7 x8 : Int) (h : Heap) (_K : KK) : Prop :=
  bcase (decide (x7 < x8)) ((0 ≤ (1 : Int) ∧ ptrK x0p (fun a1 => (0 ≤ (IntKind.wrap .i64 (Int.fdiv (IntKind.wrap .u64 (IntKind.wrap .i64 (x7 + x8))) (2 ^ (min (Int.toNat (1 : Int)) (IntKind.bits .u64))))) ∧ (IntKind.wrap .i64 (Int.fdiv (IntKind.wrap .u64 (IntKind.wrap .i64 (x7 + x8))) (2 ^ (min (Int.toNat (1 : Int)) (IntKind.bits .u64))))) < (Nat.cast x0l : Int) ∧ ldI .u8 (rd h (Addr.add a1 (Int.toNat (IntKind.wrap .i64 (Int.fdiv (IntKind.wrap .u64 (IntKind.wrap .i64 (x7 + x8))) (2 ^ (min (Int.toNat (1 : Int)) (IntKind.bits .u64))))) * 1))) (fun n2 => CallsH Tryz.prog 66 [(.int .u8 n2), (.int .u8 x1)] h (fun v3 h4 => ldB (some v3) (fun b5 => bcase b5 (bk3 x0p x0l x0c x1 x6 (IntKind.wrap .i64 ((IntKind.wrap .i64 (Int.fdiv (IntKind.wrap .u64 (IntKind.wrap .i64 (x7 + x8))) (2 ^ (min (Int.toNat (1 : Int)) (IntKind.bits .u64))))) + (1 : Int))) x8 h4) (bk3 x0p x0l x0c x1 x6 x7 (IntKind.wrap .i64 (Int.fdiv (IntKind.wrap .u64 (IntKind.wrap .i64 (x7 + x8))) (2 ^ (min (Int.toNat (1 : Int)) (IntKind.bits .u64))))) h4)))))))) (k8 x0p x0l x0c x1 x6 x7 h)
theorem EL3 (S : Stop) (n3 : Nat) (x0p : Option Addr) (x0l x0c : Nat) (x1 x6 x7 x8 : Int) (h : Heap) (K : KK) : (en S [1, 1, 1, 0, 0, 0] (c2 S n3 K) (f3 x0p x0l x0c x1 x6 x7 x8) h) = JL3 (fun x0p x0l x0c x1 x6 x7 x8 h => S (ln S [1, 1, 1, 0, 0, 0] (c1 S K) n3) (f3 x0p x0l x0c x1 x6 x7 x8) h) (fun x0p x0l x0c x1 x6 x7 h => S (en S [1, 1, 1, 1] (fn K)) (f8 x0p x0l x0c x1 x6 x7) h) x0p x0l x0c x1 x6 x7 x8 h K := by kernel_rfl
def Jk8 (x0p : Option Addr) (x0l _x0c : Nat) (x1 x6 x7 : Int) (h : Heap) (K : KK) : Prop :=
  bcase (decide (x7 < x6)) (ptrK x0p (fun a1 => (0 ≤ x7 ∧ x7 < (Nat.cast x0l : Int) ∧ ldI .u8 (rd h (Addr.add a1 (Int.toNat x7 * 1))) (fun n2 => bcase (n2 == x1) (K (.tuple #[(.int .i64 x7), (.bool true)]) h) (ptrK x0p (fun a3 => (0 ≤ x7 ∧ x7 < (Nat.cast x0l : Int) ∧ ldI .u8 (rd h (Addr.add a3 (Int.toNat x7 * 1))) (fun n4 => CallsH Tryz.prog 67 [(.int .u8 n4)] h (fun v5 h6 => ldB (some v5) (fun b7 => bcase b7 (CallsH Tryz.prog 67 [(.int .u8 x1)] h6 (fun v8 h9 => ldB (some v8) (fun b10 => K (.tuple #[(.int .i64 x7), (.bool b10)]) h9))) (K (.tuple #[(.int .i64 x7), (.bool false)]) h6))))))))))) (K (.tuple #[(.int .i64 x7), (.bool false)]) h)
theorem Ek8 (S : Stop) (x0p : Option Addr) (x0l x0c : Nat) (x1 x6 x7 : Int) (h : Heap) (K : KK) : (en S [1, 1, 1, 1] (fn K) (f8 x0p x0l x0c x1 x6 x7) h) = Jk8 x0p x0l x0c x1 x6 x7 h K := by kernel_rfl
def wk8 (x0p : Option Addr) (x0l x0c : Nat) (x1 x6 x7 : Int) (h : Heap) (K : KK) : Prop :=
  Jk8 x0p x0l x0c x1 x6 x7 h K
theorem ek8 (K : KK) (x0p : Option Addr) (x0l x0c : Nat) (x1 x6 x7 : Int) (h : Heap) : (en S0 [1, 1, 1, 1] (fn K) (f8 x0p x0l x0c x1 x6 x7) h) = wk8 x0p x0l x0c x1 x6 x7 h K := (Ek8 S0 x0p x0l x0c x1 x6 x7 h K).trans (rfl)
def wL3 : Nat → (Option Addr) → Nat → Nat → Int → Int → Int → Int → Heap → KK → Prop
  | 0, _, _, _, _, _, _, _, _, _ => False
  | n + 1, x0p, x0l, x0c, x1, x6, x7, x8, h, K => JL3 (fun x0p x0l x0c x1 x6 x7 x8 h => wL3 n x0p x0l x0c x1 x6 x7 x8 h K) (fun x0p x0l x0c x1 x6 x7 h => wk8 x0p x0l x0c x1 x6 x7 h K) x0p x0l x0c x1 x6 x7 x8 h K
theorem eL3 (K : KK) : ∀ (n : Nat) (x0p : Option Addr) (x0l x0c : Nat) (x1 x6 x7 x8 : Int) (h : Heap), (ln S0 [1, 1, 1, 0, 0, 0] (c1 S0 K) n (f3 x0p x0l x0c x1 x6 x7 x8) h) = wL3 n x0p x0l x0c x1 x6 x7 x8 h K
  | 0, _, _, _, _, _, _, _, _ => rfl
  | n + 1, x0p, x0l, x0c, x1, x6, x7, x8, h => (EL3 S0 n x0p x0l x0c x1 x6 x7 x8 h K).trans (cg2 (fun q0 q1 => JL3 q0 q1 x0p x0l x0c x1 x6 x7 x8 h K) (by funext x0p x0l x0c x1 x6 x7 x8 h; exact (fun x0p x0l x0c x1 x6 x7 x8 h => eL3 K n x0p x0l x0c x1 x6 x7 x8 h) x0p x0l x0c x1 x6 x7 x8 h) (by funext x0p x0l x0c x1 x6 x7 h; exact ek8 K x0p x0l x0c x1 x6 x7 h))
def wk3 (x0p : Option Addr) (x0l x0c : Nat) (x1 x6 x7 x8 : Int) (h : Heap) (K : KK) : Prop :=
  Jk3 (fun x0p x0l x0c x1 x6 x7 x8 h => ∃ m, wL3 m x0p x0l x0c x1 x6 x7 x8 h K) x0p x0l x0c x1 x6 x7 x8 h K
theorem ek3 (K : KK) (x0p : Option Addr) (x0l x0c : Nat) (x1 x6 x7 x8 : Int) (h : Heap) : (en S0 [1, 1, 1] (fn K) (f3 x0p x0l x0c x1 x6 x7 x8) h) = wk3 x0p x0l x0c x1 x6 x7 x8 h K := (Ek3 S0 x0p x0l x0c x1 x6 x7 x8 h K).trans (cg1 (fun q0 => Jk3 q0 x0p x0l x0c x1 x6 x7 x8 h K) (by funext x0p x0l x0c x1 x6 x7 x8 h; exact ex_congr fun m => eL3 K m x0p x0l x0c x1 x6 x7 x8 h))
def w (x0p : Option Addr) (x0l x0c : Nat) (x1 : Int) (h : Heap) (K : KK) : Prop :=
  J0 (fun x0p x0l x0c x1 x6 x7 x8 h => wk3 x0p x0l x0c x1 x6 x7 x8 h K) x0p x0l x0c x1 h K
theorem e0 (K : KK) (x0p : Option Addr) (x0l x0c : Nat) (x1 : Int) (h : Heap) : (E Tryz.prog X T S0 body (fin Tryz.prog Tryz.f43.results.toList K) (args0 0 [(.slice x0p x0l x0c), (.int .u8 x1)]) h) = w x0p x0l x0c x1 h K := (E0 S0 x0p x0l x0c x1 h K).trans (cg1 (fun q0 => J0 q0 x0p x0l x0c x1 h K) (by funext x0p x0l x0c x1 x6 x7 x8 h; exact ek3 K x0p x0l x0c x1 x6 x7 x8 h))
theorem hb : Tryz.f43.body = some body := by kernel_rfl
theorem ok : okCode T Tryz.f43.ntmps body = true := by kernel_rfl
theorem spec (x0p : Option Addr) (x0l : Nat) (x0c : Nat) (x1 : Int) (h : Heap) (K : KK) (H : w x0p x0l x0c x1 h K) : CallsH Tryz.prog 43 [(.slice x0p x0l x0c), (.int .u8 x1)] h K :=
  calls_of_E (T := T) Xok mix Tryz.func43 hb ok rfl (by rw [e0]; exact H)
end F43
-- slices.isNaN[uint8]
namespace F67
def T : Hint := ⟨[], []⟩
noncomputable def body : Code := (Tryz.f67.body).getD .skip
def J0 (x0 : Int) (h : Heap) (K : KK) : Prop :=
  K (.bool (x0 != x0)) h
theorem E0 (S : Stop) (x0 : Int) (h : Heap) (K : KK) : (E Tryz.prog X T S body (fin Tryz.prog Tryz.f67.results.toList K) (args0 0 [(.int .u8 x0)]) h) = J0 x0 h K := by kernel_rfl
def w (x0 : Int) (h : Heap) (K : KK) : Prop :=
  J0 x0 h K
theorem e0 (K : KK) (x0 : Int) (h : Heap) : (E Tryz.prog X T S0 body (fin Tryz.prog Tryz.f67.results.toList K) (args0 0 [(.int .u8 x0)]) h) = w x0 h K := (E0 S0 x0 h K).trans (rfl)
theorem hb : Tryz.f67.body = some body := by kernel_rfl
theorem ok : okCode T Tryz.f67.ntmps body = true := by kernel_rfl
theorem spec (x0 : Int) (h : Heap) (K : KK) (H : w x0 h K) : CallsH Tryz.prog 67 [(.int .u8 x0)] h K :=
  calls_of_E (T := T) Xok mix Tryz.func67 hb ok rfl (by rw [e0]; exact H)
end F67
end Go.Proofs.YtnbnlhpleomaoaaGreat.Ev
