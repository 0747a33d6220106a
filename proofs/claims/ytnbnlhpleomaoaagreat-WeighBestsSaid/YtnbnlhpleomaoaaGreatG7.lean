/- PART 7 OF WHAT THE LAW WeighBests STANDS ON: LogA4, LogB4, LogC4, LwI4, CntP4, LawH4, CntG4, BstP4, LwJ4, LawI4. Conditions: each part names its own. -/
import Derived.Test.YtnbnlhpleomaoaaGreatG6
/- AND, OR, NOT (package logic), plainly: what an operation's node is; where it needs no node; the cache's entries. Conditions: the nodes are in order (NOk). -/
namespace Go.Proofs.YtnbnlhpleomaoaaGreat.Ev
open Go
/-- an operation on values -/
def opB (op : Nat) (x y z : Bool) : Bool := if op = 2 then x && y else if op = 3 then x || y else if op = 4 then x != y else if x then y else z
/-- r is the operation's node -/
structure OpR (n : Nat) (f : Nat → Nat) (N : List (Option Nd)) (op a b c r : Nat) : Prop where
  is : isN N r
  lv : ∀ k, k ≤ lvl n N a → k ≤ lvl n N b → k ≤ lvl n N c → k ≤ lvl n N r
  sm : ∀ x, sm n f N r x = opB op (sm n f N a x) (sm n f N b x) (sm n f N c x)
theorem OpR.ext {n : Nat} {f : Nat → Nat} {N N' : List (Option Nd)} {op a b c r : Nat} (R : OpR n f N op a b c r) (H : NOk n N) (E : Ex N N') (ha : isN N a) (hb : isN N b) (hc : isN N c) : OpR n f N' op a b c r :=
  ⟨E.isN R.is, fun k h1 h2 h3 => by
    rw [E.lvl ha] at h1
    rw [E.lvl hb] at h2
    rw [E.lvl hc] at h3
    rw [E.lvl R.is]
    exact R.lv k h1 h2 h3, fun x => by rw [E.sm H R.is, E.sm H ha, E.sm H hb, E.sm H hc, R.sm]⟩
/-- what the cache may hold -/
def QL (n : Nat) (f : Nat → Nat) (N : List (Option Nd)) (k v : Int) : Prop := ∃ op a b c r : Nat, k = (wkey op 0 a b c : Nat) ∧ v = (r : Int) ∧ op < 2 ^ 8 ∧ isN N a ∧ isN N b ∧ isN N c ∧ a < 2 ^ 16 ∧ b < 2 ^ 16 ∧ c < 2 ^ 16 ∧ OpR n f N op a b c r
theorem QL.ext {n : Nat} {f : Nat → Nat} {N N' : List (Option Nd)} {k v : Int} (Q : QL n f N k v) (H : NOk n N) (E : Ex N N') : QL n f N' k v := by
  obtain ⟨op, a, b, c, r, h1, h2, h3, h4, h5, h6, h7, h8, h9, R⟩ := Q
  exact ⟨op, a, b, c, r, h1, h2, h3, E.isN h4, E.isN h5, E.isN h6, h7, h8, h9, R.ext H E h4 h5 h6⟩
theorem QL.get {n : Nat} {f : Nat → Nat} {N : List (Option Nd)} {op a b c : Nat} {v : Int} (Q : QL n f N (wkey op 0 a b c : Nat) v) (ha : a < 2 ^ 16) (hb : b < 2 ^ 16) (hc : c < 2 ^ 16) : ∃ r : Nat, v = r ∧ OpR n f N op a b c r := by
  obtain ⟨op', a', b', c', r, h1, h2, h3, h4, h5, h6, h7, h8, h9, R⟩ := Q
  obtain ⟨e1, -, e2, e3, e4⟩ := wkey_inj (by decide) ha hb hc (by decide) h7 h8 h9 (Int.ofNat.inj h1)
  subst e1 e2 e3 e4
  exact ⟨r, h2, R⟩
theorem sto_Q {h : Heap} {s : Nat} {L : List Nat} {X : SX} (H : Sto h s L X) {Q' : Int → Int → Prop} (hQ : ∀ k v, X.Q k v → Q' k v) : Sto h s L { X with Q := Q' } := by
  obtain ⟨B, F, e, H⟩ := H
  obtain ⟨cs, o, fl, c1, c2⟩ := H.m.cac
  refine ⟨B, F, e, ⟨⟨H.m.S, H.m.O, H.m.own, H.m.fre, ⟨cs, o, fl, c1, fun l hl => ?_⟩, H.m.n8, H.m.len, H.m.sep⟩, H.t, H.ok, H.cnt, H.fre⟩⟩
  obtain ⟨g1, g2, g3, g4⟩ := c2 l hl
  exact ⟨g1, g2, g3, fun e => hQ _ _ (g4 e)⟩
/-- a store whose cache holds operations -/
def XL (n room : Nat) (f g : Nat → Nat) (N : List (Option Nd)) (off : Bool) : SX := ⟨n, room, f, g, N, QL n f N, off⟩
theorem sto_XL {h : Heap} {s n room : Nat} {f g : Nat → Nat} {L : List Nat} {N N' : List (Option Nd)} {off : Bool} (H : Sto h s L { XL n room f g N off with N := N' }) (ok : NOk n N) (E : Ex N N') : Sto h s L (XL n room f g N' off) :=
  sto_Q H fun _ _ h => QL.ext h ok E
/-- where it needs no node -/
def EndsOk (g op : Nat) : Prop := ∀ {h : Heap} {a b c : Nat} {K : Value → Heap → Prop},
  (∀ h' (r : Nat), Only [] h h' → (∀ n f N, NOk n N → isN N a → isN N b → isN N c → OpR n f N op a b c r) → K (.tuple #[.int .u32 (r : Int), .bool true]) h') →
  (∀ h' (r : Nat), Only [] h h' → (2 ≤ a ∨ 2 ≤ b ∨ 2 ≤ c) → K (.tuple #[.int .u32 (r : Int), .bool false]) h') →
  CallsH Tryz.prog g [.agg #[.int .u32 (a : Int), .int .u32 (b : Int), .int .u32 (c : Int)]] h K
theorem lvl_end {n : Nat} {N : List (Option Nd)} {a : Nat} (h : a < 2) : lvl n N a = n := by unfold lvl; rw [if_pos h]
theorem eq_cast {a b : Nat} : ((a : Int) == (b : Int)) = decide (a = b) := by
  by_cases h : a = b
  · subst h; simp
  · rw [decide_eq_false h]
    simp
    omega
theorem or49 : EndsOk 49 3 := by
  intro h a b c K hT hF
  refine F49.spec _ _ _ h K ?_
  unfold F49.w F49.J0
  refine newK_at fun h1 A1 O1 z1 => ?_
  have r0 : rd h1 (Addr.add ⟨h.size, 0, none⟩ (Int.toNat (0 : Int) * 1)) = some (.int .u32 (a : Int)) := by rw [add_mk, At.rd A1]; rfl
  have r1 : rd h1 (Addr.add ⟨h.size, 0, none⟩ (Int.toNat (1 : Int) * 1)) = some (.int .u32 (b : Int)) := by rw [add_mk, At.rd A1]; rfl
  have one : a = 1 ∨ b = 1 → K (.tuple #[.int .u32 (1 : Int), .bool true]) h1 := fun hab => by
    refine hT h1 1 O1 fun n f N H ha hb hc => ⟨.inl (by omega), fun k h1 _ _ => by rw [lvl_end (a := 1) (by omega)]; have := lvl_le H ha; omega, fun x => ?_⟩
    rw [sm_const (a := 1) (by omega)]
    rcases hab with e | e
    · subst e
      rw [sm_const (a := 1) (by omega)]
      simp [opB]
    · subst e
      rw [sm_const (a := 1) (by omega)]
      simp [opB]
  refine ⟨by omega, by omega, ldI_of r0 ?_⟩
  rw [show (1 : Int) = ((1 : Nat) : Int) from rfl, eq_cast]
  refine bcase_of (fun e => one (.inl (of_decide_eq_true e))) fun e => ⟨by omega, by omega, ldI_of r1 ?_⟩
  have e := of_decide_eq_false e
  rw [eq_cast]
  refine bcase_of (fun e1 => one (.inr (of_decide_eq_true e1))) fun e1 => ⟨by omega, by omega, ldI_of r0 ?_⟩
  have e1 := of_decide_eq_false e1
  rw [show (0 : Int) = ((0 : Nat) : Int) from rfl, eq_cast]
  refine bcase_of (fun e0 => ⟨by omega, by omega, ldI_of r1 ?_⟩) fun e0 => ⟨by omega, by omega, ldI_of r0 ⟨by omega, by omega, ldI_of r1 ?_⟩⟩
  · have e0 := of_decide_eq_true e0
    subst e0
    refine hT h1 b O1 fun n f N H ha hb hc => ⟨hb, fun k _ h2 _ => h2, fun x => ?_⟩
    rw [sm_const (a := 0) (by omega)]
    simp [opB]
  have e0 := of_decide_eq_false e0
  rw [eq_cast]
  refine bcase_of (fun e2 => ⟨by omega, by omega, ldI_of r1 ?_⟩) fun e2 => ⟨by omega, by omega, ldI_of r1 ?_⟩
  · have e2 := of_decide_eq_true e2
    subst e2
    refine hT h1 a O1 fun n f N H ha hb hc => ⟨ha, fun k h2 _ _ => h2, fun x => ?_⟩
    simp [opB]
  have e2 := of_decide_eq_false e2
  rw [eq_cast]
  refine bcase_of (fun e3 => ⟨by omega, by omega, ldI_of r0 ?_⟩) fun e3 => ?_
  · have e3 := of_decide_eq_true e3
    subst e3
    refine hT h1 a O1 fun n f N H ha hb hc => ⟨ha, fun k h2 _ _ => h2, fun x => ?_⟩
    rw [sm_const (a := 0) (by omega)]
    simp [opB]
  · have e3 := of_decide_eq_false e3
    exact hF h1 0 O1 (by omega)
end Go.Proofs.YtnbnlhpleomaoaaGreat.Ev
/- AND, OR, NOT (package logic): the walk over the nodes. Conditions: the store stands (Sto), there is room. -/
namespace Go.Proofs.YtnbnlhpleomaoaaGreat.Ev
open Go
def sideV (side : Bool) : Value := .func (.func (if side then 69 else 68)) #[] #[]
def walkV (s op g : Nat) : Value := .agg #[.pointer (some ⟨s, 0, none⟩), .int .u8 (op : Int), .func (.func g) #[] #[]]
def arg3 (a b c : Nat) : Value := .agg #[.int .u32 (a : Int), .int .u32 (b : Int), .int .u32 (c : Int)]
theorem go68 : xget X 68 = some Ext.go := by kernel_rfl
theorem go69 : xget X 69 = some Ext.go := by kernel_rfl
theorem go49 : xget X 49 = some Ext.go := by kernel_rfl
/-- a node's child on a level -/
def ch (n : Nat) (N : List (Option Nd)) (l : Nat) (side : Bool) (a : Nat) : Nat := if lvl n N a = l then (if side then high N a else low N a) else a
section
variable {n : Nat} {f : Nat → Nat} {N N' : List (Option Nd)} {a l : Nat} {side : Bool}
theorem ch_is (H : NOk n N) (ha : isN N a) (hl : l ≤ lvl n N a) (hn : l < n) : isN N (ch n N l side a) ∧ l + 1 ≤ lvl n N (ch n N l side a) := by
  unfold ch
  by_cases e : lvl n N a = l
  · rw [if_pos e]
    have h2 : 2 ≤ a := by
      apply Classical.byContradiction
      intro h
      have := lvl_end (n := n) (N := N) (a := a) (by omega)
      omega
    obtain ⟨h3, h4, h5, -, h6, h7⟩ := H.at ha h2
    cases side with
    | true => exact ⟨h5, by rw [if_pos rfl]; omega⟩
    | false => exact ⟨h4, by rw [if_neg (by simp)]; omega⟩
  · rw [if_neg e]
    exact ⟨ha, by omega⟩
theorem ch_sm (H : NOk n N) (ha : isN N a) (hn : l < n) (x : Nat) : sm n f N a x = if x.testBit (f l) then sm n f N (ch n N l true a) x else sm n f N (ch n N l false a) x := by
  unfold ch
  by_cases e : lvl n N a = l
  · have h2 : 2 ≤ a := by
      apply Classical.byContradiction
      intro h
      have := lvl_end (n := n) (N := N) (a := a) (by omega)
      omega
    rw [if_pos e, if_pos e, sm_node H ha h2, e]
    rfl
  · rw [if_neg e, if_neg e]
    simp
theorem Ex.ch (E : Ex N N') (ha : Ev.isN N a) : ch n N' l side a = ch n N l side a := by
  unfold Ev.ch
  rw [E.lvl ha, E.low ha, E.high ha]
end
section
variable {h : Heap} {s : Nat} {L : List Nat} {X : SX}
theorem child110 {a l : Nat} {side : Bool} {K : Value → Heap → Prop} (H : Sto h s L X) (ha : isN X.N a) (hK : K (.int .u32 (ch X.n X.N l side a : Int)) h) :
    CallsH Tryz.prog 110 [.pointer (some ⟨s, 0, none⟩), sideV side, .int .u32 (a : Int), .int .i64 (l : Int)] h K := by
  refine F110.spec _ _ _ _ h K ?_
  unfold F110.w F110.J0
  refine sto_level H ha (ldI_of rfl ?_)
  unfold ch at hK
  by_cases e : lvl X.n X.N a = l
  · rw [if_pos e] at hK
    rw [e, show (((l : Int)) != (l : Int)) = false by simp, bcase_false]
    unfold sideV
    cases side with
    | true => exact dynK_go go69 (sto_high H ha (ldI_of rfl hK))
    | false => exact dynK_go go68 (sto_low H ha (ldI_of rfl hK))
  · rw [if_neg e] at hK
    rw [show (((lvl X.n X.N a : Nat) : Int) != (l : Int)) = true by simp; omega, bcase_true]
    exact hK
theorem half87 {op g a b c l : Nat} {side : Bool} {K : Value → Heap → Prop} (H : Sto h s L X) (ha : isN X.N a) (hb : isN X.N b) (hc : isN X.N c)
    (hrec : ∀ h', Only [] h h' → CallsH Tryz.prog 70 [walkV s op g, arg3 (ch X.n X.N l side a) (ch X.n X.N l side b) (ch X.n X.N l side c)] h' fun v h8 => ∃ n9 : Int, ∃ n10 : Int, v = (.tuple #[.int .u32 n9, .int .i64 n10]) ∧ K (.tuple #[.int .u32 n9, .int .i64 n10]) h8) :
    CallsH Tryz.prog 87 [walkV s op g, arg3 a b c, .int .i64 (l : Int), sideV side] h K := by
  refine F87.spec _ _ _ _ _ _ _ _ h K ?_
  unfold F87.w F87.J0
  refine newK_at fun h1 A1 O1 z1 => newK_at fun h2 A2 O2 z2 => ?_
  have A12 := A1.only O2 (by simp)
  have q0 : ∀ {h' : Heap} {v0 v1 v2 : Value} {q : Nat}, At h' q [v0, v1, v2] → rd h' (Addr.add ⟨q, 0, none⟩ 0) = some v0 ∧ rd h' (Addr.add ⟨q, 0, none⟩ 1) = some v1 ∧ rd h' (Addr.add ⟨q, 0, none⟩ 2) = some v2 := fun A => ⟨by rw [add_mk, At.rd A]; rfl, by rw [add_mk, At.rd A]; rfl, by rw [add_mk, At.rd A]; rfl⟩
  have w0 := q0 A2
  refine ldI_of w0.1 (ldI_of w0.2.1 (ldI_of w0.2.2 ?_))
  unfold F87.wk2 F87.Jk2
  have step : ∀ (bk : Int → Value → Addr → Addr → Int → Int → Int → Int → Heap → Prop) (k6 : Addr → Addr → Heap → Prop) (h' : Heap) (i y : Nat) (l' : List Value), i < 3 → (if i = 0 then a else if i = 1 then b else c) = y → isN X.N y → l'.length = 3 →
      At h' h.size [.pointer (some ⟨s, 0, none⟩), .int .u8 (op : Int), .func (.func g) #[] #[]] → At h' h1.size l' → Only [] h h' →
      (∀ h'', At h'' h.size [.pointer (some ⟨s, 0, none⟩), .int .u8 (op : Int), .func (.func g) #[] #[]] → At h'' h1.size (l'.set i (.int .u32 (ch X.n X.N l side y : Int))) → Only [] h h'' → bk (l : Int) (sideV side) ⟨h.size, 0, none⟩ ⟨h1.size, 0, none⟩ (a : Int) (b : Int) (c : Int) ((i + 1 : Nat) : Int) h'') →
      F87.JL2 bk k6 (l : Int) (sideV side) ⟨h.size, 0, none⟩ ⟨h1.size, 0, none⟩ (a : Int) (b : Int) (c : Int) (i : Int) h' K := by
    intro bk k6 h' i y l' hi hy hN hl' A B O hB
    unfold F87.JL2
    rw [decide_eq_true (by omega), bcase_true]
    refine ⟨by omega, by omega, ldI_of (n := (y : Int)) ?_ (ldP_of (q0 A).1 (child110 (H.only0 O) hN (ldI_of rfl ⟨by omega, by omega, ?_⟩)))⟩
    · rw [Int.toNat_natCast]
      subst hy
      have : i = 0 ∨ i = 1 ∨ i = 2 := by omega
      rcases this with e | e | e <;> subst e <;> rfl
    · have ew : IntKind.wrap .i64 ((i : Int) + 1) = ((i + 1 : Nat) : Int) := by rw [wrap_i64 (by omega) (by omega)]; omega
      rw [ew, add_mk, add_mk, Int.toNat_natCast]
      simp only [Nat.zero_add, Nat.mul_one, Nat.add_zero]
      exact stK_at B (by omega) rfl fun h'' B' O' z' => hB h'' (A.only O' (by simp; omega)) B' (O.trans O' (by intro x hx hlt; simp at hx; omega))
  refine ⟨4, ?_⟩
  have O12 := O1.trans O2 (by simp)
  unfold F87.wL2
  refine step _ _ h2 0 a _ (by omega) rfl ha rfl A12 A2 O12 fun h3 A3 B3 O3 => ?_
  unfold F87.wL2
  refine step _ _ h3 1 b _ (by omega) rfl hb rfl A3 B3 O3 fun h4 A4 B4 O4 => ?_
  unfold F87.wL2
  refine step _ _ h4 2 c _ (by omega) rfl hc rfl A4 B4 O4 fun h5 A5 B5 O5 => ?_
  unfold F87.wL2 F87.JL2
  rw [decide_eq_false (by omega), bcase_false]
  unfold F87.wk6 F87.Jk6
  have w5 := q0 A5
  have B5 : At h5 h1.size [.int .u32 (ch X.n X.N l side a : Int), .int .u32 (ch X.n X.N l side b : Int), .int .u32 (ch X.n X.N l side c : Int)] := B5
  have w6 := q0 B5
  refine ldP_of w5.1 (ldI_of w5.2.1 ?_)
  rw [w5.2.2, ldV_some]
  exact ldI_of w6.1 (ldI_of w6.2.1 (ldI_of w6.2.2 (hrec h5 O5)))
end
theorem ifmin {p q : Nat} : (if (p : Int) < (q : Int) then (p : Int) else (q : Int)) = ((min p q : Nat) : Int) := by
  by_cases h : (p : Int) < (q : Int)
  · rw [if_pos h, show min p q = p by omega]
  · rw [if_neg h, show min p q = q by omega]
theorem bdn_anti {n k k' : Nat} (h : k ≤ k') : bdn n k' ≤ bdn n k := Nat.pow_le_pow_right (by decide) (by omega)
set_option maxRecDepth 100000 in
theorem does70 {s op g n room : Nat} {f gg : Nat → Nat} {off : Bool} (hop : op < 2 ^ 8) (EO : EndsOk g op) (hx : xget X g = some .go) :
    ∀ (d : Nat) {k : Nat} {h : Heap} {L : List Nat} {N : List (Option Nd)} {a b c : Nat} {K : Value → Heap → Prop}, n - k ≤ d → k ≤ n → Sto h s L (XL n room f gg N off) → isN N a → isN N b → isN N c → k ≤ lvl n N a → k ≤ lvl n N b → k ≤ lvl n N c →
    clN (lst n) N + bdn n k + 2 ≤ room →
    (∀ h' L' N' r, Ex N N' → OpR n f N' op a b c r → clN (lst n) N' + 1 ≤ clN (lst n) N + bdn n k → Sto h' s L' (XL n room f gg N' off) → Only L h h' → Fresh L L' h → K (.tuple #[.int .u32 (r : Int), .int .i64 0]) h') →
    CallsH Tryz.prog 70 [walkV s op g, arg3 a b c] h K := by
  intro d
  induction d using Nat.strongRecOn with
  | _ d ih =>
    intro k h L N a b c K hd hk H ha hb hc ka kb kc hroom hK
    have ok := H.ok
    dsimp only [XL] at ok
    have hn8 := ok.2.2.1
    have nlt : ∀ {y}, isN N y → y < 2 ^ 16 := fun hy => by have := H.isN_lt hy; omega
    have bp := bdn_pos n k
    have zk : isN N 0 := .inl (by omega)
    refine F70.spec _ _ _ _ _ _ h K ?_
    unfold F70.w F70.J0
    refine newK_at fun h1 A1 O1 z1 => newK_at fun h2 A2 O2 z2 => ?_
    have A12 := A1.only O2 (by simp)
    have q0 : ∀ {h' : Heap} {v0 v1 v2 : Value} {q : Nat}, At h' q [v0, v1, v2] → rd h' (Addr.add ⟨q, 0, none⟩ 0) = some v0 ∧ rd h' (Addr.add ⟨q, 0, none⟩ 1) = some v1 ∧ rd h' (Addr.add ⟨q, 0, none⟩ 2) = some v2 := fun A => ⟨by rw [add_mk, At.rd A]; rfl, by rw [add_mk, At.rd A]; rfl, by rw [add_mk, At.rd A]; rfl⟩
    have qi : ∀ {h' : Heap} {v0 v1 v2 : Value} {q : Nat}, At h' q [v0, v1, v2] → rd h' (Addr.add ⟨q, 0, none⟩ (Int.toNat (0 : Int) * 1)) = some v0 ∧ rd h' (Addr.add ⟨q, 0, none⟩ (Int.toNat (1 : Int) * 1)) = some v1 ∧ rd h' (Addr.add ⟨q, 0, none⟩ (Int.toNat (2 : Int) * 1)) = some v2 := fun A => ⟨by rw [add_mk, At.rd A]; rfl, by rw [add_mk, At.rd A]; rfl, by rw [add_mk, At.rd A]; rfl⟩
    have w1 := q0 A12
    have w2 := q0 A2
    have O12 := O1.trans O2 (by simp)
    have same : ∀ {h' : Heap} (_ : Only [] h h') (r : Nat), OpR n f N op a b c r → K (.tuple #[.int .u32 (r : Int), .int .i64 0]) h' := fun O r R =>
      hK _ L N r (Ex.refl _) R (by omega) (H.only0 O) (O.mono (by simp)) (Fresh.refl _ _)
    rw [w1.2.2, ldV_some]
    refine ldI_of w2.1 (ldI_of w2.2.1 (ldI_of w2.2.2 (dynK_go hx ?_)))
    refine EO (fun h3 r O3 hR => ⟨_, _, rfl, ?_⟩) fun h3 r O3 h2 => ⟨_, _, rfl, ?_⟩
    · rw [bcase_true]
      exact same (O12.trans O3 (by simp)) r (hR n f N ok.1 ha hb hc)
    rw [bcase_false]
    have A3 := A12.only O3 (by simp)
    have B3 := A2.only O3 (by simp)
    have O03 := O12.trans O3 (by simp)
    have w3 := q0 A3
    have i3 := qi B3
    refine ldP_of w3.1 (ldI_of w3.2.1 ⟨by omega, by omega, ldI_of i3.1 ⟨by omega, by omega, ldI_of i3.2.1 ⟨by omega, by omega, ldI_of i3.2.2 ?_⟩⟩⟩)
    refine sto_recall (mask := 0) (H.only0 O03) hop (by decide) (nlt ha) (nlt hb) (nlt hc) (fun h4 S4 O4 => ⟨_, _, rfl, ?_⟩) fun h4 v hv S4 O4 => ⟨_, _, rfl, ?_⟩
    rotate_left
    · obtain ⟨r, rfl, R⟩ := QL.get hv (nlt ha) (nlt hb) (nlt hc)
      have hr := H.isN_lt R.is
      rw [wrap32 (by omega), bcase_true]
      exact hK h4 L N r (Ex.refl _) R (by omega) S4 ((O03.mono (by simp)).trans O4 fun b hb _ => hb) (Fresh.refl _ _)
    rw [bcase_false]
    have hL1 : ∀ y ∈ L, y < h.size := H.lt
    have z03 := O03.size
    have bL : h.size ∉ L := fun hm => Nat.lt_irrefl _ (hL1 _ hm)
    have bL1 : h1.size ∉ L := fun hm => by have := hL1 _ hm; have := O1.size; omega
    have A4 := A3.only O4 bL
    have B4 := B3.only O4 bL1
    have w4 := q0 A4
    have x4 := q0 B4
    refine ldP_of w4.1 (sto_vars S4 (ldI_of rfl (ldI_of x4.1 (ldI_of x4.2.1 (ldI_of x4.2.2 ?_)))))
    unfold F70.wk9 F70.Jk9
    have lstep : ∀ (bk : Addr → Addr → Int → Int → Int → Int → Int → Heap → Prop) (k13 : Addr → Addr → Int → Heap → Prop) (i y m : Nat), i < 3 → (if i = 0 then a else if i = 1 then b else c) = y → isN N y →
        bk ⟨h.size, 0, none⟩ ⟨h1.size, 0, none⟩ ((min (lvl n N y) m : Nat) : Int) (a : Int) (b : Int) (c : Int) ((i + 1 : Nat) : Int) h4 →
        F70.JL9 bk k13 ⟨h.size, 0, none⟩ ⟨h1.size, 0, none⟩ (m : Int) (a : Int) (b : Int) (c : Int) (i : Int) h4 K := by
      intro bk k13 i y m hi hy hN hB
      unfold F70.JL9
      rw [decide_eq_true (by omega), bcase_true]
      refine ⟨by omega, by omega, ldI_of (n := (y : Int)) ?_ (ldP_of w4.1 (sto_level S4 hN (ldI_of rfl ?_)))⟩
      · rw [Int.toNat_natCast]
        subst hy
        have : i = 0 ∨ i = 1 ∨ i = 2 := by omega
        rcases this with e | e | e <;> subst e <;> rfl
      · have ew : IntKind.wrap .i64 ((i : Int) + 1) = ((i + 1 : Nat) : Int) := by rw [wrap_i64 (by omega) (by omega)]; omega
        show bk ⟨h.size, 0, none⟩ ⟨h1.size, 0, none⟩ (if ((lvl n N y : Nat) : Int) < (m : Int) then ((lvl n N y : Nat) : Int) else (m : Int)) (a : Int) (b : Int) (c : Int) _ h4
        rw [ifmin, ew]
        exact hB
    refine ⟨4, ?_⟩
    unfold F70.wL9
    refine lstep _ _ 0 a n (by omega) rfl ha ?_
    unfold F70.wL9
    refine lstep _ _ 1 b _ (by omega) rfl hb ?_
    unfold F70.wL9
    refine lstep _ _ 2 c _ (by omega) rfl hc ?_
    unfold F70.wL9 F70.JL9
    rw [decide_eq_false (by omega), bcase_false]
    have la := lvl_le ok.1 ha
    have lb := lvl_le ok.1 hb
    have lc := lvl_le ok.1 hc
    have lt2 : ∀ {y}, isN N y → 2 ≤ y → lvl n N y < n := fun hy h2 => (ok.1.at hy h2).1
    obtain ⟨l, hl⟩ : ∃ l, l = min (lvl n N c) (min (lvl n N b) (min (lvl n N a) n)) := ⟨_, rfl⟩
    rw [← hl]
    have hln : l < n := by
      rcases h2 with h2 | h2 | h2
      · have := lt2 ha h2; omega
      · have := lt2 hb h2; omega
      · have := lt2 hc h2; omega
    have hkl : k ≤ l := by omega
    have la' : l ≤ lvl n N a := by omega
    have lb' : l ≤ lvl n N b := by omega
    have lc' : l ≤ lvl n N c := by omega
    unfold F70.wk13 F70.Jk13
    refine ldP_of w4.1 (ldI_of w4.2.1 ?_)
    rw [w4.2.2, ldV_some]
    refine ldI_of x4.1 (ldI_of x4.2.1 (ldI_of x4.2.2 ?_))
    have bl1 : bdn n (l + 1) ≤ bdn n k := bdn_anti (by omega)
    have bb : bdn n (l + 1) + bdn n (l + 1) ≤ bdn n k + 1 := by
      by_cases hk1 : l + 1 < n
      · have := bdn_two hk1
        have := bdn_anti (n := n) hkl
        omega
      · have : bdn n (l + 1) = 1 := bdn_one (by omega)
        omega
    have ca := ch_is (side := false) ok.1 ha la' hln
    have cb := ch_is (side := false) ok.1 hb lb' hln
    have cc := ch_is (side := false) ok.1 hc lc' hln
    refine half87 (side := false) S4 ha hb hc fun h5 O5 => ?_
    dsimp only [XL]
    refine ih (n - (l + 1)) (by omega) (k := l + 1) (Nat.le_refl _) (by omega) (S4.only0 O5) ca.1 cb.1 cc.1 ca.2 cb.2 cc.2 (by omega) fun h6 L6 N6 lo E6 R6 c6 S6 O6 F6 => ⟨_, _, rfl, ⟨_, _, rfl, ?_⟩⟩
    rw [show ((0 : Int) != 0) = false from rfl, bcase_false]
    have ok6 := S6.ok
    dsimp only [XL] at ok6
    have O04 : Only L h h4 := (O03.mono (by simp)).trans O4 fun b hb _ => hb
    have O06 : Only L h h6 := (O04.trans O5 (by simp)).trans O6 fun b hb _ => hb
    have nL6 : ∀ {y}, h.size ≤ y → y < h5.size → y ∉ L6 := fun h1 h2 h3 => by
      rcases F6 _ h3 with h | h
      · have := hL1 _ h; omega
      · omega
    have z15 : h1.size < h5.size := Nat.lt_of_lt_of_le B4.lt O5.size
    have z05 : h.size < h5.size := Nat.lt_of_lt_of_le A4.lt O5.size
    have A6 := (A4.only O5 (by simp)).only O6 bL
    have B6 := (B4.only O5 (by simp)).only O6 bL1
    have w6 := q0 A6
    have x6 := q0 B6
    refine ldP_of w6.1 (ldI_of w6.2.1 ?_)
    rw [w6.2.2, ldV_some]
    refine ldI_of x6.1 (ldI_of x6.2.1 (ldI_of x6.2.2 ?_))
    have ha6 := E6.isN ha
    have hb6 := E6.isN hb
    have hc6 := E6.isN hc
    have la6 : l ≤ lvl n N6 a := by rw [E6.lvl ha]; exact la'
    have lb6 : l ≤ lvl n N6 b := by rw [E6.lvl hb]; exact lb'
    have lc6 : l ≤ lvl n N6 c := by rw [E6.lvl hc]; exact lc'
    have da := ch_is (side := true) ok6.1 ha6 la6 hln
    have db := ch_is (side := true) ok6.1 hb6 lb6 hln
    have dc := ch_is (side := true) ok6.1 hc6 lc6 hln
    refine half87 (side := true) S6 ha6 hb6 hc6 fun h7 O7 => ?_
    dsimp only [XL]
    refine ih (n - (l + 1)) (by omega) (k := l + 1) (Nat.le_refl _) (by omega) (S6.only0 O7) da.1 db.1 dc.1 da.2 db.2 dc.2 (by omega) fun h8 L8 N8 hi E8 R8 c8 S8 O8 F8 => ⟨_, _, rfl, ⟨_, _, rfl, ?_⟩⟩
    rw [show ((0 : Int) != 0) = false from rfl, bcase_false]
    have ok8 := S8.ok
    dsimp only [XL] at ok8
    have F06 : Fresh L L6 h := fun b hb => by
      rcases F6 b hb with h | h
      · exact .inl h
      · exact .inr (by omega)
    have O08 : Only L h h8 := (O06.trans O7 (by simp)).app O8 F06
    have z57 : h5.size ≤ h7.size := Nat.le_trans O6.size O7.size
    have nb6 : h.size ∉ L6 := nL6 (Nat.le_refl _) z05
    have nb6' : h1.size ∉ L6 := nL6 O1.size z15
    have A8 := (A6.only O7 (by simp)).only O8 nb6
    have B8 := (B6.only O7 (by simp)).only O8 nb6'
    have nL8 : ∀ {y}, h.size ≤ y → y < h5.size → y ∉ L8 := fun h1 h2 h3 => by
      rcases F8 _ h3 with h | h
      · exact nL6 h1 h2 h
      · omega
    have nb8 : h.size ∉ L8 := nL8 (Nat.le_refl _) z05
    have nb8' : h1.size ∉ L8 := nL8 O1.size z15
    have F08 : Fresh L L8 h := F06.trans F8 (by omega)
    have w8 := q0 A8
    have llo : l < lvl n N8 lo := by
      rw [E8.lvl R6.is]
      have := R6.lv (l + 1) (by rw [E6.lvl ca.1]; exact ca.2) (by rw [E6.lvl cb.1]; exact cb.2) (by rw [E6.lvl cc.1]; exact cc.2)
      omega
    have lhi : l < lvl n N8 hi := by
      have := R8.lv (l + 1) (by rw [E8.lvl da.1]; exact da.2) (by rw [E8.lvl db.1]; exact db.2) (by rw [E8.lvl dc.1]; exact dc.2)
      omega
    have hlo8 := E8.isN R6.is
    refine ldP_of w8.1 (sto_mk S8 (l := l) hln hlo8 R8.is llo lhi fun h9 L9 N9 r e R S9 O9 F9 => ⟨_, _, rfl, ?_⟩)
    have ok9 := S9.ok
    dsimp only [XL] at ok9 R
    have he : e = 0 := by
      rcases R with ⟨-, -, e, -⟩ | ⟨-, _, -, -, e, -⟩ | ⟨h1, h2, h3, -⟩ | ⟨-, -, -, e, -⟩
      · exact e
      · exact e
      · exfalso
        have c1 := cnt_bound ok8.1
        by_cases hk1 : l + 1 < n
        · have := bdn_two hk1
          have := bdn_anti (n := n) hkl
          omega
        · have : bdn n (l + 1) = 1 := bdn_one (by omega)
          omega
      · exact e
    subst he
    obtain ⟨m1, m2, m3, m4⟩ := mk_node (f := f) ok8.1 ok9.1 hlo8 R8.is llo R
    have hcl : clN (lst n) N9 ≤ clN (lst n) N8 + if lst n l then 1 else 0 := by
      rcases R with ⟨-, -, -, e⟩ | ⟨-, _, -, -, -, e⟩ | ⟨-, -, -, -, e, -⟩ | ⟨-, -, -, -, q, -, P⟩
      · rw [e]; omega
      · rw [e]; omega
      · omega
      · rw [P.cl (lst n)]; exact Nat.le_refl _
    have E08 : Ex N N8 := E6.trans E8
    have E09 : Ex N N9 := E08.trans m1
    have RR : OpR n f N9 op a b c r := by
      refine ⟨m2, fun k' k1 k2 k3 => ?_, fun x => ?_⟩
      · rw [E09.lvl ha] at k1
        rw [E09.lvl hb] at k2
        rw [E09.lvl hc] at k3
        omega
      · rw [m4 x, E09.sm ok.1 ha, E09.sm ok.1 hb, E09.sm ok.1 hc, ch_sm ok.1 ha hln, ch_sm (a := b) ok.1 hb hln, ch_sm (a := c) ok.1 hc hln]
        by_cases hb' : x.testBit (f l) = true
        · rw [if_pos hb', if_pos hb', if_pos hb', if_pos hb', R8.sm, E8.sm ok6.1 da.1, E8.sm ok6.1 db.1, E8.sm ok6.1 dc.1, E6.ch ha, E6.ch hb, E6.ch hc]
          rw [E6.sm ok.1 (ch_is (side := true) ok.1 ha la' hln).1, E6.sm ok.1 (ch_is (side := true) ok.1 hb lb' hln).1, E6.sm ok.1 (ch_is (side := true) ok.1 hc lc' hln).1]
        · rw [if_neg hb', if_neg hb', if_neg hb', if_neg hb', E8.sm ok6.1 R6.is, R6.sm, E6.sm ok.1 ca.1, E6.sm ok.1 cb.1, E6.sm ok.1 cc.1]
    have S9' : Sto h9 s L9 (XL n room f gg N9 off) := sto_XL S9 ok8.1 m1
    have O09 : Only L h h9 := O08.app O9 F08
    have F09 : Fresh L L9 h := F08.trans F9 (by have := O08.size; omega)
    have hcc : clN (lst n) N9 + 1 ≤ clN (lst n) N + bdn n k := by
      by_cases hk1 : l + 1 < n
      · have : lst n l = true := by unfold lst; simp; omega
        rw [this] at hcl
        have := bdn_two hk1
        have := bdn_anti (n := n) hkl
        simp at hcl
        omega
      · have : lst n l = false := by unfold lst; simp; omega
        rw [this] at hcl
        have : bdn n (l + 1) = 1 := bdn_one (by omega)
        simp at hcl
        omega
    rw [show ((((0 : Nat) : Int)) == (0 : Int)) = true from rfl, bcase_true]
    have z59 : h5.size ≤ h8.size := Nat.le_trans z57 O8.size
    have A9 := A8.only O9 nb8
    have B9 := B8.only O9 nb8'
    have w9 := q0 A9
    have i9 := qi B9
    have lt9 : ∀ {y}, isN N9 y → y < 2 ^ 16 := fun hy => by have := S9'.isN_lt hy; omega
    have ha9 := E09.isN ha
    have hb9 := E09.isN hb
    have hc9 := E09.isN hc
    refine ldP_of w9.1 (ldI_of w9.2.1 ⟨by omega, by omega, ldI_of i9.1 ⟨by omega, by omega, ldI_of i9.2.1 ⟨by omega, by omega, ldI_of i9.2.2 ?_⟩⟩⟩)
    refine sto_note (mask := 0) S9' hop (by decide) (nlt ha) (nlt hb) (nlt hc) (by have := lt9 m2; omega) ⟨op, a, b, c, r, rfl, rfl, hop, ha9, hb9, hc9, nlt ha, nlt hb, nlt hc, RR⟩ fun h10 S10 O10 => ⟨rfl, ?_⟩
    unfold F70.wk22 F70.Jk22
    exact hK h10 L9 N9 r E09 RR hcc S10 (O09.app O10 F09) F09
end Go.Proofs.YtnbnlhpleomaoaaGreat.Ev
/- NOT and OR (package logic). Conditions: the store stands (Sto), there is room. -/
namespace Go.Proofs.YtnbnlhpleomaoaaGreat.Ev
open Go
set_option maxRecDepth 100000 in
theorem run47 {h : Heap} {s op g n room a b c : Nat} {f gg : Nat → Nat} {off : Bool} {L : List Nat} {N : List (Option Nd)} {K : Value → Heap → Prop} (hop : op < 2 ^ 8) (EO : EndsOk g op) (hx : xget X g = some .go)
    (H : Sto h s L (XL n room f gg N off)) (ha : isN N a) (hb : isN N b) (hc : isN N c) (hroom : clN (lst n) N + bdn n 0 + 2 ≤ room)
    (hK : ∀ h' L' N' r, Ex N N' → OpR n f N' op a b c r → clN (lst n) N' + 1 ≤ clN (lst n) N + bdn n 0 → Sto h' s L' (XL n room f gg N' off) → Only L h h' → Fresh L L' h → K (.tuple #[.int .u32 (r : Int), .int .i64 0]) h') :
    CallsH Tryz.prog 47 [.pointer (some ⟨s, 0, none⟩), .int .u8 (op : Int), .func (.func g) #[] #[], arg3 a b c] h K := by
  refine F47.spec _ _ _ _ _ _ h K ?_
  unfold F47.w F47.J0
  refine newK_at fun h1 A1 O1 z1 => ?_
  have q0 : ∀ {h' : Heap} {v0 v1 v2 : Value} {q : Nat}, At h' q [v0, v1, v2] → rd h' (Addr.add ⟨q, 0, none⟩ 0) = some v0 ∧ rd h' (Addr.add ⟨q, 0, none⟩ 1) = some v1 ∧ rd h' (Addr.add ⟨q, 0, none⟩ 2) = some v2 := fun A => ⟨by rw [add_mk, At.rd A]; rfl, by rw [add_mk, At.rd A]; rfl, by rw [add_mk, At.rd A]; rfl⟩
  have w1 := q0 A1
  have H1 := H.only0 O1
  refine ldI_of w1.1 (ldI_of w1.2.1 (ldI_of w1.2.2 ?_))
  unfold F47.wk2 F47.Jk2
  have step : ∀ (bk : Addr → Int → Nat → Addr → Int → Int → Int → Int → Heap → Prop) (k7 : Addr → Int → Nat → Addr → Heap → Prop) (i y : Nat), i < 3 → (if i = 0 then a else if i = 1 then b else c) = y → isN N y →
      bk ⟨s, 0, none⟩ (op : Int) g ⟨h.size, 0, none⟩ (a : Int) (b : Int) (c : Int) ((i + 1 : Nat) : Int) h1 →
      F47.JL2 bk k7 ⟨s, 0, none⟩ (op : Int) g ⟨h.size, 0, none⟩ (a : Int) (b : Int) (c : Int) (i : Int) h1 K := by
    intro bk k7 i y hi hy hN hB
    unfold F47.JL2
    rw [decide_eq_true (by omega), bcase_true]
    refine ⟨by omega, by omega, ldI_of (n := (y : Int)) ?_ (sto_is1 H1 hN (ldB_of rfl ?_))⟩
    · rw [Int.toNat_natCast]
      subst hy
      have : i = 0 ∨ i = 1 ∨ i = 2 := by omega
      rcases this with e | e | e <;> subst e <;> rfl
    · have ew : IntKind.wrap .i64 ((i : Int) + 1) = ((i + 1 : Nat) : Int) := by rw [wrap_i64 (by omega) (by omega)]; omega
      rw [Bool.not_true, bcase_false, ew]
      exact hB
  refine ⟨4, ?_⟩
  unfold F47.wL2
  refine step _ _ 0 a (by omega) rfl ha ?_
  unfold F47.wL2
  refine step _ _ 1 b (by omega) rfl hb ?_
  unfold F47.wL2
  refine step _ _ 2 c (by omega) rfl hc ?_
  unfold F47.wL2 F47.JL2
  rw [decide_eq_false (by omega), bcase_false]
  unfold F47.wk7 F47.Jk7
  refine ldI_of w1.1 (ldI_of w1.2.1 (ldI_of w1.2.2 ?_))
  refine does70 hop EO hx n (k := 0) (by omega) (by omega) H1 ha hb hc (by omega) (by omega) (by omega) hroom fun h' L' N' r E R c S O F => ⟨_, _, rfl, hK h' L' N' r E R c S ((O1.mono (by simp)).trans O fun b hb _ => hb) fun b hb => ?_⟩
  rcases F b hb with h | h
  · exact .inl h
  · exact .inr (by have := O1.size; omega)
section
variable {h : Heap} {s n room a b : Nat} {f gg : Nat → Nat} {off : Bool} {L : List Nat} {N : List (Option Nd)} {K : Value → Heap → Prop}
theorem or25 (H : Sto h s L (XL n room f gg N off)) (ha : isN N a) (hb : isN N b) (hroom : clN (lst n) N + bdn n 0 + 2 ≤ room)
    (hK : ∀ h' L' N' r, Ex N N' → isN N' r → (∀ x, sm n f N' r x = (sm n f N' a x || sm n f N' b x)) → clN (lst n) N' + 1 ≤ clN (lst n) N + bdn n 0 → Sto h' s L' (XL n room f gg N' off) → Only L h h' → Fresh L L' h → K (.tuple #[.int .u32 (r : Int), .int .i64 0]) h') :
    CallsH Tryz.prog 25 [.pointer (some ⟨s, 0, none⟩), .int .u32 (a : Int), .int .u32 (b : Int)] h K := by
  refine F25.spec _ _ _ h K ?_
  unfold F25.w F25.J0
  by_cases hlt : (b : Int) < (a : Int)
  · rw [if_pos hlt, if_neg (by omega)]
    refine run47 (op := 3) (g := 49) (a := b) (b := a) (c := 0) (by decide) or49 go49 H hb ha (.inl (by omega)) hroom fun h' L' N' r E R c S O F => ⟨_, _, rfl, hK h' L' N' r E R.is (fun x => ?_) c S O F⟩
    rw [R.sm]
    unfold opB
    cases sm n f N' a x <;> cases sm n f N' b x <;> rfl
  · rw [if_neg hlt]
    have e : (if (b : Int) > (a : Int) then (b : Int) else (a : Int)) = (b : Int) := by
      by_cases h : (b : Int) > (a : Int)
      · rw [if_pos h]
      · rw [if_neg h]; omega
    rw [e]
    refine run47 (op := 3) (g := 49) (a := a) (b := b) (c := 0) (by decide) or49 go49 H ha hb (.inl (by omega)) hroom fun h' L' N' r E R c S O F => ⟨_, _, rfl, hK h' L' N' r E R.is (fun x => ?_) c S O F⟩
    rw [R.sm]
    unfold opB
    cases sm n f N' a x <;> cases sm n f N' b x <;> rfl
end
end Go.Proofs.YtnbnlhpleomaoaaGreat.Ev
/- PRINTED BY PROGRAM: what each of these functions does, computed over heaps by the evaluator, and that its calls do so. Conditions: none. -/
namespace Go.Proofs.YtnbnlhpleomaoaaGreat.Ev
open Go
-- spinney/spinneylaw30.WeighSums
namespace F8
def T : Hint := ⟨[(11, [3, 5, 7, 8, 9, 10, 11, 12, 13]), (15, [5, 7, 8, 9, 10, 11, 12])], []⟩
noncomputable def body : Code := (Tryz.f8.body).getD .skip
noncomputable def en (S : Stop) (p : List Nat) (κ : XK) : Fr → Heap → Prop := E Tryz.prog X T S (sub body p) κ
noncomputable def ln (S : Stop) (p : List Nat) (κ : XK) (n : Nat) : Fr → Heap → Prop := loopN S (E Tryz.prog X T S (sub body p)) (cutQ T (sub body p)) κ n
def fn (K : KK) : XK := fin Tryz.prog Tryz.f8.results.toList K
noncomputable def c0 (S : Stop) (K : KK) : XK := seqN S (cutQ T (sub body [1, 1, 1, 1, 1, 1, 1, 1, 1])) (en S [1, 1, 1, 1, 1, 1, 1, 1, 1] (fn K)) (fn K)
noncomputable def c1 (S : Stop) (K : KK) : XK := blockN 0 (c0 S K)
noncomputable def c2 (S : Stop) (n11 : Nat) (K : KK) : XK := backN S (cutQ T (sub body [1, 1, 1, 1, 1, 1, 1, 1, 0, 1, 0, 0])) (ln S [1, 1, 1, 1, 1, 1, 1, 1, 0, 1, 0, 0] (c1 S K) n11) (c1 S K)
def f11 (x3 : Addr) (x5 : Option Addr) (x7 : Int) (x8 : Bool) (x9 x10 : Int) (x11p : Option Addr) (x11l x11c : Nat) (x12 x13 : Int) : Fr := [(3, (.pointer (some x3))), (5, (.pointer x5)), (7, (.int .u32 x7)), (8, (.bool x8)), (9, (.int .u32 x9)), (10, (.int .i64 x10)), (11, (.slice x11p x11l x11c)), (12, (.int .i64 x12)), (13, (.int .i64 x13))]
def f15 (x5 : Option Addr) (x7 : Int) (x8 : Bool) (x9 x10 : Int) (x11p : Option Addr) (x11l x11c : Nat) (x12 : Int) : Fr := [(5, (.pointer x5)), (7, (.int .u32 x7)), (8, (.bool x8)), (9, (.int .u32 x9)), (10, (.int .i64 x10)), (11, (.slice x11p x11l x11c)), (12, (.int .i64 x12))]
def J0 (k11 : Addr → (Option Addr) → Int → Bool → Int → Int → (Option Addr) → Nat → Nat → Int → Int → Heap → Prop) (x0_0 x0_1 x0_2 x0_3 x1_0 x1_1 x1_2 x1_3 x1_4 x1_5 x1_6 x1_7 : Int) (h : Heap) (K : KK) : Prop :=
  newK h (.cells #[(.int .u64 x0_0), (.int .u64 x0_1), (.int .u64 x0_2), (.int .u64 x0_3)] 24) (fun b1 h2 => newK h2 (.cells #[(.int .i8 x1_0), (.int .i8 x1_1), (.int .i8 x1_2), (.int .i8 x1_3), (.int .i8 x1_4), (.int .i8 x1_5), (.int .i8 x1_6), (.int .i8 x1_7)] 56) (fun b3 h4 => CallsH Tryz.prog 10 [] h4 (fun v5 h6 => ldB (some v5) (fun b7 => bcase (!b7) (K (.bool false) h6) (CallsH Tryz.prog 11 [(.int .i64 (8 : Int)), (.int .i64 (400 : Int))] h6 (fun v8 h9 => (∃ p10 : Option Addr, ∃ n11 : Int, v8 = (.tuple #[(.pointer p10), (.int .i64 n11)]) ∧ bcase (n11 != (0 : Int)) (K (.bool false) h9) (ldI .u64 (rd h9 (Addr.add (Addr.mk b1 0 none) 0)) (fun n12 => ldI .u64 (rd h9 (Addr.add (Addr.mk b1 0 none) 1)) (fun n13 => ldI .u64 (rd h9 (Addr.add (Addr.mk b1 0 none) 2)) (fun n14 => ldI .u64 (rd h9 (Addr.add (Addr.mk b1 0 none) 3)) (fun n15 => CallsH Tryz.prog 13 [(.pointer p10), (.agg #[(.int .u64 n12), (.int .u64 n13), (.int .u64 n14), (.int .u64 n15)])] h9 (fun v16 h17 => (∃ n18 : Int, ∃ b19 : Bool, v16 = (.tuple #[(.int .u32 n18), (.bool b19)]) ∧ CallsH Tryz.prog 24 [(.pointer p10), (.int .u32 n18)] h17 (fun v20 h21 => (∃ n22 : Int, ∃ n23 : Int, v20 = (.tuple #[(.int .u32 n22), (.int .i64 n23)]) ∧ k11 (Addr.mk b3 0 none) p10 n18 b19 n22 n23 none 0 0 (0 : Int) (0 : Int) h21))))))))))))))))
theorem E0 (S : Stop) (x0_0 x0_1 x0_2 x0_3 x1_0 x1_1 x1_2 x1_3 x1_4 x1_5 x1_6 x1_7 : Int) (h : Heap) (K : KK) : (E Tryz.prog X T S body (fin Tryz.prog Tryz.f8.results.toList K) (args0 0 [(.agg #[(.int .u64 x0_0), (.int .u64 x0_1), (.int .u64 x0_2), (.int .u64 x0_3)]), (.agg #[(.int .i8 x1_0), (.int .i8 x1_1), (.int .i8 x1_2), (.int .i8 x1_3), (.int .i8 x1_4), (.int .i8 x1_5), (.int .i8 x1_6), (.int .i8 x1_7)])]) h) = J0 (fun x3 x5 x7 x8 x9 x10 x11p x11l x11c x12 x13 h => S (en S [1, 1, 1, 1, 1, 1, 1, 1, 0, 1] (c0 S K)) (f11 x3 x5 x7 x8 x9 x10 x11p x11l x11c x12 x13) h) x0_0 x0_1 x0_2 x0_3 x1_0 x1_1 x1_2 x1_3 x1_4 x1_5 x1_6 x1_7 h K := by kernel_rfl
def Jk11 (lp11 : Addr → (Option Addr) → Int → Bool → Int → Int → (Option Addr) → Nat → Nat → Int → Int → Heap → Prop) (x3 : Addr) (x5 : Option Addr) (x7 : Int) (x8 : Bool) (x9 x10 : Int) (x11p : Option Addr) (x11l x11c : Nat) (x12 x13 : Int) (h : Heap) (_K : KK) : Prop :=
  lp11 x3 x5 x7 x8 x9 x10 x11p x11l x11c x12 x13 h
theorem Ek11 (S : Stop) (x3 : Addr) (x5 : Option Addr) (x7 : Int) (x8 : Bool) (x9 x10 : Int) (x11p : Option Addr) (x11l x11c : Nat) (x12 x13 : Int) (h : Heap) (K : KK) : (en S [1, 1, 1, 1, 1, 1, 1, 1, 0, 1] (c0 S K) (f11 x3 x5 x7 x8 x9 x10 x11p x11l x11c x12 x13) h) = Jk11 (fun x3 x5 x7 x8 x9 x10 x11p x11l x11c x12 x13 h => ∃ n, S (ln S [1, 1, 1, 1, 1, 1, 1, 1, 0, 1, 0, 0] (c1 S K) n) (f11 x3 x5 x7 x8 x9 x10 x11p x11l x11c x12 x13) h) x3 x5 x7 x8 x9 x10 x11p x11l x11c x12 x13 h K := by kernel_rfl
def JL11 (bk11 : Addr → (Option Addr) → Int → Bool → Int → Int → (Option Addr) → Nat → Nat → Int → Int → Heap → Prop) (k15 : (Option Addr) → Int → Bool → Int → Int → (Option Addr) → Nat → Nat → Int → Heap → Prop) (x3 : Addr) (x5 : Option Addr) (x7 : Int) (x8 : Bool) (x9 x10 : Int) (x11p : Option Addr) (x11l x11c : Nat) (x12 x13 : Int) (h : Heap) (_K : KK) : Prop :=
  bcase (decide (x13 < (8 : Int))) ((0 ≤ x13 ∧ x13 < (Nat.cast 8 : Int) ∧ ldI .i8 (rd h (Addr.add x3 (Int.toNat x13 * 1))) (fun n1 => newK h (.cells #[(.int .i64 (IntKind.wrap .i64 n1))] 3) (fun b2 h3 => appK h3 3 1 8 #[(.int .i64 (0 : Int))] x11p x11l x11c (some (Addr.mk b2 0 none)) 1 (fun p4 l5 c6 h7 => (0 ≤ x13 ∧ x13 < (Nat.cast 8 : Int) ∧ ldI .i8 (rd h7 (Addr.add x3 (Int.toNat x13 * 1))) (fun n8 => bk11 x3 x5 x7 x8 x9 x10 p4 l5 c6 (IntKind.wrap .i64 (x12 + (IntKind.wrap .i64 ((128 : Int) * (IntKind.wrap .i64 n8))))) (IntKind.wrap .i64 (x13 + (1 : Int))) h7))))))) (k15 x5 x7 x8 x9 x10 x11p x11l x11c x12 h)
theorem EL11 (S : Stop) (n11 : Nat) (x3 : Addr) (x5 : Option Addr) (x7 : Int) (x8 : Bool) (x9 x10 : Int) (x11p : Option Addr) (x11l x11c : Nat) (x12 x13 : Int) (h : Heap) (K : KK) : (en S [1, 1, 1, 1, 1, 1, 1, 1, 0, 1, 0, 0] (c2 S n11 K) (f11 x3 x5 x7 x8 x9 x10 x11p x11l x11c x12 x13) h) = JL11 (fun x3 x5 x7 x8 x9 x10 x11p x11l x11c x12 x13 h => S (ln S [1, 1, 1, 1, 1, 1, 1, 1, 0, 1, 0, 0] (c1 S K) n11) (f11 x3 x5 x7 x8 x9 x10 x11p x11l x11c x12 x13) h) (fun x5 x7 x8 x9 x10 x11p x11l x11c x12 h => S (en S [1, 1, 1, 1, 1, 1, 1, 1, 1] (fn K)) (f15 x5 x7 x8 x9 x10 x11p x11l x11c x12) h) x3 x5 x7 x8 x9 x10 x11p x11l x11c x12 x13 h K := by kernel_rfl
def Jk15 (x5 : Option Addr) (x7 : Int) (x8 : Bool) (x9 x10 : Int) (x11p : Option Addr) (x11l x11c : Nat) (x12 : Int) (h : Heap) (K : KK) : Prop :=
  CallsH Tryz.prog 18 [(.pointer x5), (.int .u32 x7), (.slice x11p x11l x11c)] h (fun v1 h2 => (∃ n3 : Int, ∃ n4 : Int, v1 = (.tuple #[(.int .i64 n3), (.int .i64 n4)]) ∧ CallsH Tryz.prog 18 [(.pointer x5), (.int .u32 x9), (.slice x11p x11l x11c)] h2 (fun v5 h6 => (∃ n7 : Int, ∃ n8 : Int, v5 = (.tuple #[(.int .i64 n7), (.int .i64 n8)]) ∧ CallsH Tryz.prog 18 [(.pointer x5), (.int .u32 (1 : Int)), (.slice x11p x11l x11c)] h6 (fun v9 h10 => (∃ n11 : Int, ∃ n12 : Int, v9 = (.tuple #[(.int .i64 n11), (.int .i64 n12)]) ∧ CallsH Tryz.prog 18 [(.pointer x5), (.int .u32 (0 : Int)), (.slice x11p x11l x11c)] h10 (fun v13 h14 => (∃ n15 : Int, ∃ n16 : Int, v13 = (.tuple #[(.int .i64 n15), (.int .i64 n16)]) ∧ bcase x8 (bcase (x10 == (0 : Int)) (bcase (n4 == (0 : Int)) (bcase (n8 == (0 : Int)) (bcase (n12 == (0 : Int)) (bcase (n16 == (0 : Int)) (bcase ((IntKind.wrap .i64 (n3 + n7)) == x12) (bcase (n11 == x12) (K (.bool (n15 == (0 : Int))) h14) (K (.bool false) h14)) (K (.bool false) h14)) (K (.bool false) h14)) (K (.bool false) h14)) (K (.bool false) h14)) (K (.bool false) h14)) (K (.bool false) h14)) (K (.bool false) h14)))))))))
theorem Ek15 (S : Stop) (x5 : Option Addr) (x7 : Int) (x8 : Bool) (x9 x10 : Int) (x11p : Option Addr) (x11l x11c : Nat) (x12 : Int) (h : Heap) (K : KK) : (en S [1, 1, 1, 1, 1, 1, 1, 1, 1] (fn K) (f15 x5 x7 x8 x9 x10 x11p x11l x11c x12) h) = Jk15 x5 x7 x8 x9 x10 x11p x11l x11c x12 h K := by kernel_rfl
def wk15 (x5 : Option Addr) (x7 : Int) (x8 : Bool) (x9 x10 : Int) (x11p : Option Addr) (x11l x11c : Nat) (x12 : Int) (h : Heap) (K : KK) : Prop :=
  Jk15 x5 x7 x8 x9 x10 x11p x11l x11c x12 h K
theorem ek15 (K : KK) (x5 : Option Addr) (x7 : Int) (x8 : Bool) (x9 x10 : Int) (x11p : Option Addr) (x11l x11c : Nat) (x12 : Int) (h : Heap) : (en S0 [1, 1, 1, 1, 1, 1, 1, 1, 1] (fn K) (f15 x5 x7 x8 x9 x10 x11p x11l x11c x12) h) = wk15 x5 x7 x8 x9 x10 x11p x11l x11c x12 h K := (Ek15 S0 x5 x7 x8 x9 x10 x11p x11l x11c x12 h K).trans (rfl)
def wL11 : Nat → Addr → (Option Addr) → Int → Bool → Int → Int → (Option Addr) → Nat → Nat → Int → Int → Heap → KK → Prop
  | 0, _, _, _, _, _, _, _, _, _, _, _, _, _ => False
  | n + 1, x3, x5, x7, x8, x9, x10, x11p, x11l, x11c, x12, x13, h, K => JL11 (fun x3 x5 x7 x8 x9 x10 x11p x11l x11c x12 x13 h => wL11 n x3 x5 x7 x8 x9 x10 x11p x11l x11c x12 x13 h K) (fun x5 x7 x8 x9 x10 x11p x11l x11c x12 h => wk15 x5 x7 x8 x9 x10 x11p x11l x11c x12 h K) x3 x5 x7 x8 x9 x10 x11p x11l x11c x12 x13 h K
theorem eL11 (K : KK) : ∀ (n : Nat) (x3 : Addr) (x5 : Option Addr) (x7 : Int) (x8 : Bool) (x9 x10 : Int) (x11p : Option Addr) (x11l x11c : Nat) (x12 x13 : Int) (h : Heap), (ln S0 [1, 1, 1, 1, 1, 1, 1, 1, 0, 1, 0, 0] (c1 S0 K) n (f11 x3 x5 x7 x8 x9 x10 x11p x11l x11c x12 x13) h) = wL11 n x3 x5 x7 x8 x9 x10 x11p x11l x11c x12 x13 h K
  | 0, _, _, _, _, _, _, _, _, _, _, _, _ => rfl
  | n + 1, x3, x5, x7, x8, x9, x10, x11p, x11l, x11c, x12, x13, h => (EL11 S0 n x3 x5 x7 x8 x9 x10 x11p x11l x11c x12 x13 h K).trans (cg2 (fun q0 q1 => JL11 q0 q1 x3 x5 x7 x8 x9 x10 x11p x11l x11c x12 x13 h K) (by funext x3 x5 x7 x8 x9 x10 x11p x11l x11c x12 x13 h; exact (fun x3 x5 x7 x8 x9 x10 x11p x11l x11c x12 x13 h => eL11 K n x3 x5 x7 x8 x9 x10 x11p x11l x11c x12 x13 h) x3 x5 x7 x8 x9 x10 x11p x11l x11c x12 x13 h) (by funext x5 x7 x8 x9 x10 x11p x11l x11c x12 h; exact ek15 K x5 x7 x8 x9 x10 x11p x11l x11c x12 h))
def wk11 (x3 : Addr) (x5 : Option Addr) (x7 : Int) (x8 : Bool) (x9 x10 : Int) (x11p : Option Addr) (x11l x11c : Nat) (x12 x13 : Int) (h : Heap) (K : KK) : Prop :=
  Jk11 (fun x3 x5 x7 x8 x9 x10 x11p x11l x11c x12 x13 h => ∃ m, wL11 m x3 x5 x7 x8 x9 x10 x11p x11l x11c x12 x13 h K) x3 x5 x7 x8 x9 x10 x11p x11l x11c x12 x13 h K
theorem ek11 (K : KK) (x3 : Addr) (x5 : Option Addr) (x7 : Int) (x8 : Bool) (x9 x10 : Int) (x11p : Option Addr) (x11l x11c : Nat) (x12 x13 : Int) (h : Heap) : (en S0 [1, 1, 1, 1, 1, 1, 1, 1, 0, 1] (c0 S0 K) (f11 x3 x5 x7 x8 x9 x10 x11p x11l x11c x12 x13) h) = wk11 x3 x5 x7 x8 x9 x10 x11p x11l x11c x12 x13 h K := (Ek11 S0 x3 x5 x7 x8 x9 x10 x11p x11l x11c x12 x13 h K).trans (cg1 (fun q0 => Jk11 q0 x3 x5 x7 x8 x9 x10 x11p x11l x11c x12 x13 h K) (by funext x3 x5 x7 x8 x9 x10 x11p x11l x11c x12 x13 h; exact ex_congr fun m => eL11 K m x3 x5 x7 x8 x9 x10 x11p x11l x11c x12 x13 h))
def w (x0_0 x0_1 x0_2 x0_3 x1_0 x1_1 x1_2 x1_3 x1_4 x1_5 x1_6 x1_7 : Int) (h : Heap) (K : KK) : Prop :=
  J0 (fun x3 x5 x7 x8 x9 x10 x11p x11l x11c x12 x13 h => wk11 x3 x5 x7 x8 x9 x10 x11p x11l x11c x12 x13 h K) x0_0 x0_1 x0_2 x0_3 x1_0 x1_1 x1_2 x1_3 x1_4 x1_5 x1_6 x1_7 h K
theorem e0 (K : KK) (x0_0 x0_1 x0_2 x0_3 x1_0 x1_1 x1_2 x1_3 x1_4 x1_5 x1_6 x1_7 : Int) (h : Heap) : (E Tryz.prog X T S0 body (fin Tryz.prog Tryz.f8.results.toList K) (args0 0 [(.agg #[(.int .u64 x0_0), (.int .u64 x0_1), (.int .u64 x0_2), (.int .u64 x0_3)]), (.agg #[(.int .i8 x1_0), (.int .i8 x1_1), (.int .i8 x1_2), (.int .i8 x1_3), (.int .i8 x1_4), (.int .i8 x1_5), (.int .i8 x1_6), (.int .i8 x1_7)])]) h) = w x0_0 x0_1 x0_2 x0_3 x1_0 x1_1 x1_2 x1_3 x1_4 x1_5 x1_6 x1_7 h K := (E0 S0 x0_0 x0_1 x0_2 x0_3 x1_0 x1_1 x1_2 x1_3 x1_4 x1_5 x1_6 x1_7 h K).trans (cg1 (fun q0 => J0 q0 x0_0 x0_1 x0_2 x0_3 x1_0 x1_1 x1_2 x1_3 x1_4 x1_5 x1_6 x1_7 h K) (by funext x3 x5 x7 x8 x9 x10 x11p x11l x11c x12 x13 h; exact ek11 K x3 x5 x7 x8 x9 x10 x11p x11l x11c x12 x13 h))
theorem hb : Tryz.f8.body = some body := by kernel_rfl
theorem ok : okCode T Tryz.f8.ntmps body = true := by kernel_rfl
theorem spec (x0_0 : Int) (x0_1 : Int) (x0_2 : Int) (x0_3 : Int) (x1_0 : Int) (x1_1 : Int) (x1_2 : Int) (x1_3 : Int) (x1_4 : Int) (x1_5 : Int) (x1_6 : Int) (x1_7 : Int) (h : Heap) (K : KK) (H : w x0_0 x0_1 x0_2 x0_3 x1_0 x1_1 x1_2 x1_3 x1_4 x1_5 x1_6 x1_7 h K) : CallsH Tryz.prog 8 [(.agg #[(.int .u64 x0_0), (.int .u64 x0_1), (.int .u64 x0_2), (.int .u64 x0_3)]), (.agg #[(.int .i8 x1_0), (.int .i8 x1_1), (.int .i8 x1_2), (.int .i8 x1_3), (.int .i8 x1_4), (.int .i8 x1_5), (.int .i8 x1_6), (.int .i8 x1_7)])] h K :=
  calls_of_E (T := T) Xok mix Tryz.func8 hb ok rfl (by rw [e0]; exact H)
end F8
end Go.Proofs.YtnbnlhpleomaoaaGreat.Ev
/- HOW OFTEN A NODE'S FUNCTION IS TRUE, plainly: a node's count is half of its children's. Conditions: the nodes are in order (NOk), the levels are the variables. -/
namespace Go.Proofs.YtnbnlhpleomaoaaGreat.Ev
open Go
/-- how often it is true below k -/
def tN (p : Nat → Bool) (k : Nat) : Nat := (trs p k).length
theorem tN_zero (p : Nat → Bool) : tN p 0 = 0 := rfl
theorem tN_succ (p : Nat → Bool) (k : Nat) : tN p (k + 1) = tN p k + if p k then 1 else 0 := by
  unfold tN
  rw [trs_succ, List.length_append]
  cases p k <;> rfl
theorem tN_congr {p q : Nat → Bool} : ∀ {k : Nat}, (∀ x, x < k → p x = q x) → tN p k = tN q k
  | 0, _ => rfl
  | k + 1, h => by rw [tN_succ, tN_succ, tN_congr fun x hx => h x (by omega), h k (by omega)]
theorem tN_add (p : Nat → Bool) (a : Nat) : ∀ b, tN p (a + b) = tN p a + tN (fun x => p (a + x)) b
  | 0 => by rw [tN_zero]; rfl
  | b + 1 => by rw [← Nat.add_assoc, tN_succ, tN_add p a b, tN_succ]; omega
theorem flip_top {n x : Nat} (h : x < 2 ^ n) : x ^^^ 2 ^ n = 2 ^ n + x := by
  refine Nat.eq_of_testBit_eq fun i => ?_
  rw [Nat.testBit_xor, Nat.testBit_two_pow]
  rcases Nat.lt_trichotomy i n with h1 | h1 | h1
  · rw [Nat.testBit_two_pow_add_gt h1, decide_eq_false (by omega), Bool.xor_false]
  · subst h1
    rw [Nat.testBit_two_pow_add_eq, decide_eq_true rfl, Bool.xor_true]
  · have e : 2 ^ (n + 1) ≤ 2 ^ i := Nat.pow_le_pow_right (by decide) h1
    rw [Nat.pow_succ] at e
    rw [Nat.testBit_lt_two_pow (show x < 2 ^ i by omega), Nat.testBit_lt_two_pow (show 2 ^ n + x < 2 ^ i by omega), decide_eq_false (by omega), Bool.xor_false]
theorem half : ∀ (n v : Nat) {p q : Nat → Bool}, v < n → (∀ x, x < 2 ^ n → p (x ^^^ 2 ^ v) = p x) → (∀ x, x < 2 ^ n → q (x ^^^ 2 ^ v) = q x) →
    2 * tN (fun x => if x.testBit v then q x else p x) (2 ^ n) = tN p (2 ^ n) + tN q (2 ^ n)
  | 0, v, p, q, hv, _, _ => by omega
  | n + 1, v, p, q, hv, hp, hq => by
    have e : 2 ^ (n + 1) = 2 ^ n + 2 ^ n := by rw [Nat.pow_succ]; omega
    rw [e, tN_add, tN_add, tN_add]
    rcases Nat.lt_or_ge v n with h | h
    · have cm : ∀ x, x < 2 ^ n → 2 ^ n + (x ^^^ 2 ^ v) = (2 ^ n + x) ^^^ 2 ^ v := fun x hx => by
        have lt : x ^^^ 2 ^ v < 2 ^ n := Nat.xor_lt_two_pow hx (Nat.pow_lt_pow_right (by decide) h)
        rw [← flip_top lt, ← flip_top hx, Nat.xor_assoc, Nat.xor_assoc, Nat.xor_comm (2 ^ v)]
      have i1 := half n v (p := p) (q := q) h (fun x hx => hp x (by omega)) fun x hx => hq x (by omega)
      have i2 := half n v (p := fun x => p (2 ^ n + x)) (q := fun x => q (2 ^ n + x)) h (fun x hx => by show p _ = p _; rw [cm x hx, hp _ (by omega)]) fun x hx => by show q _ = q _; rw [cm x hx, hq _ (by omega)]
      have e2 : tN (fun x => if (2 ^ n + x).testBit v then q (2 ^ n + x) else p (2 ^ n + x)) (2 ^ n) = tN (fun x => if x.testBit v then q (2 ^ n + x) else p (2 ^ n + x)) (2 ^ n) :=
        tN_congr fun x _ => by rw [Nat.testBit_two_pow_add_gt h]
      rw [e2]
      omega
    · have : v = n := by omega
      subst this
      have p2 : tN (fun x => p (2 ^ v + x)) (2 ^ v) = tN p (2 ^ v) := tN_congr fun x hx => by rw [← flip_top hx, hp x (by omega)]
      have q2 : tN (fun x => q (2 ^ v + x)) (2 ^ v) = tN q (2 ^ v) := tN_congr fun x hx => by rw [← flip_top hx, hq x (by omega)]
      have l1 : tN (fun x => if x.testBit v then q x else p x) (2 ^ v) = tN p (2 ^ v) := tN_congr fun x hx => by rw [Nat.testBit_lt_two_pow hx]; rfl
      have l2 : tN (fun x => if (2 ^ v + x).testBit v then q (2 ^ v + x) else p (2 ^ v + x)) (2 ^ v) = tN q (2 ^ v) := tN_congr fun x hx => by
        rw [Nat.testBit_two_pow_add_eq, Nat.testBit_lt_two_pow hx, ← flip_top hx, hq x (by omega)]
        rfl
      rw [p2, q2, l1, l2]
      omega
section
variable {n : Nat} {f : Nat → Nat} {N : List (Option Nd)}
end
end Go.Proofs.YtnbnlhpleomaoaaGreat.Ev
/- THE LAWS OF LAYER 30: the sums of all weights (WeighSums). Conditions: the arguments are in their kinds' bounds. -/
namespace Go.Proofs.YtnbnlhpleomaoaaGreat.Ev
open Go
theorem badC_i8 {w : List Int} (h : ∀ y ∈ w, -128 ≤ y ∧ y ≤ 127) : badC w = false := by
  unfold badC
  rw [List.any_eq_false]
  intro z hz
  have := h z hz
  simp
  omega
theorem own_ints {h : Heap} {lo c : Nat} {p : Option Addr} {zs : List Int} (W : Own h lo 1 p zs.length c (zs.map (.int .i64))) : Ints h .i64 p zs := fun i hi => by
  obtain ⟨b, e, r⟩ := W.rd (j := i) (by simpa using hi)
  refine ⟨_, e, ?_⟩
  rw [add_mk, Nat.zero_add, r, List.getElem?_map, List.getElem?_eq_getElem hi]
  simp [List.getD, hi]
/-- one weight more -/
theorem app_w {h : Heap} {bw lo i cap : Nat} {p : Option Addr} {w : List Int} {K : Option Addr → Nat → Nat → Heap → Prop} (A : At h bw (w.map (.int .i8))) (hi : i < w.length) (hi2 : i < 1000) (hw : ∀ y ∈ w, -128 ≤ y ∧ y ≤ 127)
    (W : Own h lo 1 p i cap ((w.take i).map (.int .i64))) (hlo : lo ≤ h.size)
    (hK : ∀ p' c' h', Own h' lo 1 p' (i + 1) c' ((w.take (i + 1)).map (.int .i64)) → Only (OwnB p) h h' → K p' (i + 1) c' h') :
    ldI .i8 (rd h (Addr.add ⟨bw, 0, none⟩ (Int.toNat (i : Int) * 1))) fun n1 => newK h (.cells #[.int .i64 (IntKind.wrap .i64 n1)] 3) fun b2 h3 => appK h3 3 1 8 #[.int .i64 (0 : Int)] p i cap (some (Addr.mk b2 0 none)) 1 K := by
  have hwi := hw _ (List.getElem_mem hi)
  refine ldI_of (n := w[i]) ?_ ?_
  · rw [add_mk, Nat.zero_add, Int.toNat_natCast, Nat.mul_one, At.rd A, List.getElem?_map, List.getElem?_eq_getElem hi]
    rfl
  rw [wrap_i64 (n := w[i]) (by omega) (by omega)]
  refine newK_at fun h3 A3 O3 z3 => ?_
  refine own_app (W.only O3 (by simp)) A3 rfl rfl (by omega) (by simp [Value.oneCell']) (by omega) fun p' c' h' W' O' f' => hK p' c' h' ?_ ((O3.mono (by simp)).trans O' fun b hb _ => hb)
  have e : (w.take (i + 1)).map (Value.int .i64) = (w.take i).map (Value.int .i64) ++ [Value.int .i64 w[i]] := by rw [List.take_add_one, List.getElem?_eq_getElem hi, List.map_append]; rfl
  rw [e]
  exact W'
end Go.Proofs.YtnbnlhpleomaoaaGreat.Ev
/- PRINTED BY PROGRAM: what each of these functions does, computed over heaps by the evaluator, and that its calls do so. Conditions: none. -/
namespace Go.Proofs.YtnbnlhpleomaoaaGreat.Ev
open Go
-- spinney/count.One
namespace F26
def T : Hint := ⟨[(4, [0, 1, 12])], []⟩
noncomputable def body : Code := (Tryz.f26.body).getD .skip
noncomputable def en (S : Stop) (p : List Nat) (κ : XK) : Fr → Heap → Prop := E Tryz.prog X T S (sub body p) κ
noncomputable def ln (S : Stop) (p : List Nat) (κ : XK) (n : Nat) : Fr → Heap → Prop := loopN S (E Tryz.prog X T S (sub body p)) (cutQ T (sub body p)) κ n
def fn (K : KK) : XK := fin Tryz.prog Tryz.f26.results.toList K
noncomputable def c0 (S : Stop) (K : KK) : XK := seqN S (cutQ T (sub body [1, 1, 1])) (en S [1, 1, 1] (fn K)) (fn K)
noncomputable def c1 (S : Stop) (K : KK) : XK := blockN 0 (c0 S K)
noncomputable def c2 (S : Stop) (n4 : Nat) (K : KK) : XK := backN S (cutQ T (sub body [1, 1, 0, 1, 0, 0])) (ln S [1, 1, 0, 1, 0, 0] (c1 S K) n4) (c1 S K)
def f4 (x0 : Addr) (x1 x12 : Int) : Fr := [(0, (.pointer (some x0))), (1, (.int .u32 x1)), (12, (.int .i64 x12))]
def J0 (k4 : Addr → Int → Int → Heap → Prop) (x0 : Addr) (x1 : Int) (h : Heap) (K : KK) : Prop :=
  CallsH Tryz.prog 21 [(.pointer (some x0)), (.int .u32 x1)] h (fun v1 h2 => ldB (some v1) (fun b3 => bcase (!b3) (K (.tuple #[(.int .u8 (0 : Int)), (.bool false), (.int .i64 (101 : Int))]) h2) (k4 x0 x1 (0 : Int) h2)))
theorem E0 (S : Stop) (x0 : Addr) (x1 : Int) (h : Heap) (K : KK) : (E Tryz.prog X T S body (fin Tryz.prog Tryz.f26.results.toList K) (args0 0 [(.pointer (some x0)), (.int .u32 x1)]) h) = J0 (fun x0 x1 x12 h => S (en S [1, 1, 0, 1] (c0 S K)) (f4 x0 x1 x12) h) x0 x1 h K := by kernel_rfl
def Jk4 (lp4 : Addr → Int → Int → Heap → Prop) (x0 : Addr) (x1 x12 : Int) (h : Heap) (_K : KK) : Prop :=
  lp4 x0 x1 x12 h
theorem Ek4 (S : Stop) (x0 : Addr) (x1 x12 : Int) (h : Heap) (K : KK) : (en S [1, 1, 0, 1] (c0 S K) (f4 x0 x1 x12) h) = Jk4 (fun x0 x1 x12 h => ∃ n, S (ln S [1, 1, 0, 1, 0, 0] (c1 S K) n) (f4 x0 x1 x12) h) x0 x1 x12 h K := by kernel_rfl
def JL4 (bk4 : Addr → Int → Int → Heap → Prop) (x0 : Addr) (x1 x12 : Int) (h : Heap) (K : KK) : Prop :=
  bcase (decide (x12 < (256 : Int))) (CallsH Tryz.prog 50 [(.pointer (some x0)), (.int .u32 x1), (.int .u8 (IntKind.wrap .u8 x12))] h (fun v1 h2 => ldB (some v1) (fun b3 => bcase b3 (K (.tuple #[(.int .u8 (IntKind.wrap .u8 x12)), (.bool true), (.int .i64 (0 : Int))]) h2) (bk4 x0 x1 (IntKind.wrap .i64 (x12 + (1 : Int))) h2)))) (K (.tuple #[(.int .u8 (0 : Int)), (.bool false), (.int .i64 (0 : Int))]) h)
theorem EL4 (S : Stop) (n4 : Nat) (x0 : Addr) (x1 x12 : Int) (h : Heap) (K : KK) : (en S [1, 1, 0, 1, 0, 0] (c2 S n4 K) (f4 x0 x1 x12) h) = JL4 (fun x0 x1 x12 h => S (ln S [1, 1, 0, 1, 0, 0] (c1 S K) n4) (f4 x0 x1 x12) h) x0 x1 x12 h K := by kernel_rfl
def wL4 : Nat → Addr → Int → Int → Heap → KK → Prop
  | 0, _, _, _, _, _ => False
  | n + 1, x0, x1, x12, h, K => JL4 (fun x0 x1 x12 h => wL4 n x0 x1 x12 h K) x0 x1 x12 h K
theorem eL4 (K : KK) : ∀ (n : Nat) (x0 : Addr) (x1 x12 : Int) (h : Heap), (ln S0 [1, 1, 0, 1, 0, 0] (c1 S0 K) n (f4 x0 x1 x12) h) = wL4 n x0 x1 x12 h K
  | 0, _, _, _, _ => rfl
  | n + 1, x0, x1, x12, h => (EL4 S0 n x0 x1 x12 h K).trans (cg1 (fun q0 => JL4 q0 x0 x1 x12 h K) (by funext x0 x1 x12 h; exact (fun x0 x1 x12 h => eL4 K n x0 x1 x12 h) x0 x1 x12 h))
def wk4 (x0 : Addr) (x1 x12 : Int) (h : Heap) (K : KK) : Prop :=
  Jk4 (fun x0 x1 x12 h => ∃ m, wL4 m x0 x1 x12 h K) x0 x1 x12 h K
theorem ek4 (K : KK) (x0 : Addr) (x1 x12 : Int) (h : Heap) : (en S0 [1, 1, 0, 1] (c0 S0 K) (f4 x0 x1 x12) h) = wk4 x0 x1 x12 h K := (Ek4 S0 x0 x1 x12 h K).trans (cg1 (fun q0 => Jk4 q0 x0 x1 x12 h K) (by funext x0 x1 x12 h; exact ex_congr fun m => eL4 K m x0 x1 x12 h))
def w (x0 : Addr) (x1 : Int) (h : Heap) (K : KK) : Prop :=
  J0 (fun x0 x1 x12 h => wk4 x0 x1 x12 h K) x0 x1 h K
theorem e0 (K : KK) (x0 : Addr) (x1 : Int) (h : Heap) : (E Tryz.prog X T S0 body (fin Tryz.prog Tryz.f26.results.toList K) (args0 0 [(.pointer (some x0)), (.int .u32 x1)]) h) = w x0 x1 h K := (E0 S0 x0 x1 h K).trans (cg1 (fun q0 => J0 q0 x0 x1 h K) (by funext x0 x1 x12 h; exact ek4 K x0 x1 x12 h))
theorem hb : Tryz.f26.body = some body := by kernel_rfl
theorem ok : okCode T Tryz.f26.ntmps body = true := by kernel_rfl
theorem spec (x0 : Addr) (x1 : Int) (h : Heap) (K : KK) (H : w x0 x1 h K) : CallsH Tryz.prog 26 [(.pointer (some x0)), (.int .u32 x1)] h K :=
  calls_of_E (T := T) Xok mix Tryz.func26 hb ok rfl (by rw [e0]; exact H)
end F26
end Go.Proofs.YtnbnlhpleomaoaaGreat.Ev
/- THE CHEAPEST OF AN OR, plainly; the first place where a function is true (count.One). Conditions: none; the store stands (Sto). -/
namespace Go.Proofs.YtnbnlhpleomaoaaGreat.Ev
open Go
def lexle (c : List Int) (r x : Nat) : Prop := cst c r c.length < cst c x c.length ∨ (cst c r c.length = cst c x c.length ∧ r ≤ x)
theorem best_uniq {c : List Int} {l : List Nat} (hl : l.Pairwise (· < ·)) {r : Nat} (hr : r ∈ l) (hm : ∀ x ∈ l, lexle c r x) : bestF c l = (r, true) := by
  obtain ⟨h1, h2⟩ := bestF_le (c := c) hl r hr
  have h3 := hm _ (bestF_mem h1)
  unfold lexle at h3
  have e : (bestF c l).1 = r := by omega
  exact Prod.ext e h1
theorem best_min {c : List Int} {l : List Nat} (hl : l.Pairwise (· < ·)) (h : (bestF c l).2 = true) : (bestF c l).1 ∈ l ∧ ∀ x ∈ l, lexle c (bestF c l).1 x := ⟨bestF_mem h, fun x hx => (bestF_le hl x hx).2⟩
theorem bestV_true {c : List Int} {l : List Nat} (h : (bestF c l).2 = true) : bestV c l = cst c (bestF c l).1 c.length := by unfold bestV; rw [if_pos h]
section
variable {c : List Int} {ta tb to : List Nat} (sa : ta.Pairwise (· < ·)) (sb : tb.Pairwise (· < ·)) (so : to.Pairwise (· < ·)) (hm : ∀ x, x ∈ to ↔ x ∈ ta ∨ x ∈ tb)
include hm in
theorem or_none (ha : (bestF c ta).2 = false) (hb : (bestF c tb).2 = false) : bestF c to = (0, false) := by
  have e1 := (bestF_none ha).1
  have e2 := (bestF_none hb).1
  have : to = [] := by
    apply List.eq_nil_iff_forall_not_mem.2
    intro x hx
    rcases (hm x).1 hx with h | h
    · rw [e1] at h; cases h
    · rw [e2] at h; cases h
  rw [this]
  rfl
include sa sb so hm in
theorem or_left (ha : (bestF c ta).2 = true) (hb : (bestF c tb).2 = false ∨ bestV c ta < bestV c tb ∨ (bestV c ta = bestV c tb ∧ (bestF c ta).1 ≤ (bestF c tb).1)) : bestF c to = bestF c ta := by
  obtain ⟨h1, h2⟩ := best_min sa ha
  have : bestF c to = ((bestF c ta).1, true) := best_uniq so ((hm _).2 (.inl h1)) fun x hx => by
    rcases (hm x).1 hx with h | h
    · exact h2 x h
    · cases hb' : (bestF c tb).2 with
      | false =>
        rw [(bestF_none hb').1] at h
        cases h
      | true =>
        have h3 := (best_min sb hb').2 x h
        rw [bestV_true ha, bestV_true hb'] at hb
        rw [hb'] at hb
        unfold lexle at h3 ⊢
        rcases hb with h4 | h4 | h4
        · cases h4
        · omega
        · omega
  rw [this, ← ha]
include sa sb so hm in
theorem or_right (hb : (bestF c tb).2 = true) (ha : (bestF c ta).2 = false ∨ bestV c tb < bestV c ta ∨ (bestV c ta = bestV c tb ∧ (bestF c tb).1 ≤ (bestF c ta).1)) : bestF c to = bestF c tb :=
  or_left sb sa so (fun x => by rw [hm x]; exact Or.comm) hb (by rcases ha with h | h | h; exact .inl h; exact .inr (.inl h); exact .inr (.inr ⟨h.1.symm, h.2⟩))
end
theorem getD_rep0 (n v : Nat) : (List.replicate n (0 : Int)).getD v 0 = 0 := by
  rw [List.getD_eq_getElem?_getD, List.getElem?_replicate]
  split <;> rfl
theorem cst_zero (n x : Nat) : ∀ v, cst (List.replicate n 0) x v = 0
  | 0 => rfl
  | v + 1 => by
    unfold cst
    rw [cst_zero n x v, getD_rep0]
    simp
section
variable {h : Heap} {s a : Nat} {L : List Nat} {X : SX} {K : Value → Heap → Prop}
set_option maxRecDepth 100000 in
theorem one26 (H : Sto h s L X) (hf : ∀ j, j < X.n → X.f j < 8) (ha : isN X.N a) (hY : ∀ h' r, r < 256 → sm X.n X.f X.N a r = true → (∀ y, y < r → sm X.n X.f X.N a y = false) → Only [] h h' → K (.tuple #[.int .u8 (r : Int), .bool true, .int .i64 0]) h')
    (hN : ∀ h', (∀ y, y < 256 → sm X.n X.f X.N a y = false) → Only [] h h' → K (.tuple #[.int .u8 0, .bool false, .int .i64 0]) h') :
    CallsH Tryz.prog 26 [.pointer (some ⟨s, 0, none⟩), .int .u32 (a : Int)] h K := by
  refine F26.spec _ _ h K ?_
  unfold F26.w F26.J0
  refine sto_is1 H ha (ldB_of rfl ?_)
  rw [Bool.not_true, bcase_false]
  unfold F26.wk4 F26.Jk4
  have main : ∀ (d x : Nat) (h' : Heap), x + d = 256 → (∀ y, y < x → sm X.n X.f X.N a y = false) → Only [] h h' → F26.wL4 (d + 1) ⟨s, 0, none⟩ (a : Int) (x : Int) h' K := by
    intro d
    induction d with
    | zero =>
      intro x h' hd hx O
      unfold F26.wL4 F26.JL4
      rw [decide_eq_false (by omega), bcase_false]
      exact hN h' (fun y hy => hx y (by omega)) O
    | succ d ih =>
      intro x h' hd hx O
      unfold F26.wL4 F26.JL4
      have ew : IntKind.wrap .i64 ((x : Int) + 1) = ((x + 1 : Nat) : Int) := by rw [wrap_i64 (by omega) (by omega)]; omega
      rw [decide_eq_true (by omega), bcase_true, show IntKind.wrap .u8 (x : Int) = (x : Int) from wrap8 (by omega), ew]
      refine eval50 (H.only0 O) hf ha (by omega) fun h2 O2 => ldB_of rfl (bcase_of (fun e => hY h2 x (by omega) e hx (O.trans O2 (by simp))) fun e => ih (x + 1) h2 (by omega) (fun y hy => ?_) (O.trans O2 (by simp)))
      by_cases h : y = x
      · subst h; exact e
      · exact hx y (by omega)
  exact ⟨_, main 256 0 h (by omega) (fun y hy => by omega) (Only.refl _ _)⟩
end
end Go.Proofs.YtnbnlhpleomaoaaGreat.Ev
/- PRINTED BY PROGRAM: what each of these functions does, computed over heaps by the evaluator, and that its calls do so. Conditions: none. -/
namespace Go.Proofs.YtnbnlhpleomaoaaGreat.Ev
open Go
-- spinney/spinneylaw30.WeighBests
namespace F9
def T : Hint := ⟨[(11, [5, 7, 9, 10, 11, 12, 13, 14, 15, 16]), (14, [7, 9, 10, 11, 12, 13, 14, 15])], []⟩
noncomputable def body : Code := (Tryz.f9.body).getD .skip
noncomputable def en (S : Stop) (p : List Nat) (κ : XK) : Fr → Heap → Prop := E Tryz.prog X T S (sub body p) κ
noncomputable def ln (S : Stop) (p : List Nat) (κ : XK) (n : Nat) : Fr → Heap → Prop := loopN S (E Tryz.prog X T S (sub body p)) (cutQ T (sub body p)) κ n
def fn (K : KK) : XK := fin Tryz.prog Tryz.f9.results.toList K
noncomputable def c0 (S : Stop) (K : KK) : XK := seqN S (cutQ T (sub body [1, 1, 1, 1, 1, 1, 1, 1, 1])) (en S [1, 1, 1, 1, 1, 1, 1, 1, 1] (fn K)) (fn K)
noncomputable def c1 (S : Stop) (K : KK) : XK := blockN 0 (c0 S K)
noncomputable def c2 (S : Stop) (n11 : Nat) (K : KK) : XK := backN S (cutQ T (sub body [1, 1, 1, 1, 1, 1, 1, 1, 0, 1, 0, 0])) (ln S [1, 1, 1, 1, 1, 1, 1, 1, 0, 1, 0, 0] (c1 S K) n11) (c1 S K)
def f11 (x5 : Addr) (x7 : Option Addr) (x9 : Int) (x10 : Bool) (x11 : Int) (x12 : Bool) (x13 x14 : Int) (x15p : Option Addr) (x15l x15c : Nat) (x16 : Int) : Fr := [(5, (.pointer (some x5))), (7, (.pointer x7)), (9, (.int .u32 x9)), (10, (.bool x10)), (11, (.int .u32 x11)), (12, (.bool x12)), (13, (.int .u32 x13)), (14, (.int .i64 x14)), (15, (.slice x15p x15l x15c)), (16, (.int .i64 x16))]
def f14 (x7 : Option Addr) (x9 : Int) (x10 : Bool) (x11 : Int) (x12 : Bool) (x13 x14 : Int) (x15p : Option Addr) (x15l x15c : Nat) : Fr := [(7, (.pointer x7)), (9, (.int .u32 x9)), (10, (.bool x10)), (11, (.int .u32 x11)), (12, (.bool x12)), (13, (.int .u32 x13)), (14, (.int .i64 x14)), (15, (.slice x15p x15l x15c))]
def J0 (k11 : Addr → (Option Addr) → Int → Bool → Int → Bool → Int → Int → (Option Addr) → Nat → Nat → Int → Heap → Prop) (x0_0 x0_1 x0_2 x0_3 x1_0 x1_1 x1_2 x1_3 x2_0 x2_1 x2_2 x2_3 x2_4 x2_5 x2_6 x2_7 : Int) (h : Heap) (K : KK) : Prop :=
  newK h (.cells #[(.int .u64 x0_0), (.int .u64 x0_1), (.int .u64 x0_2), (.int .u64 x0_3)] 24) (fun b1 h2 => newK h2 (.cells #[(.int .u64 x1_0), (.int .u64 x1_1), (.int .u64 x1_2), (.int .u64 x1_3)] 24) (fun b3 h4 => newK h4 (.cells #[(.int .i8 x2_0), (.int .i8 x2_1), (.int .i8 x2_2), (.int .i8 x2_3), (.int .i8 x2_4), (.int .i8 x2_5), (.int .i8 x2_6), (.int .i8 x2_7)] 56) (fun b5 h6 => CallsH Tryz.prog 10 [] h6 (fun v7 h8 => ldB (some v7) (fun b9 => bcase (!b9) (K (.bool false) h8) (CallsH Tryz.prog 11 [(.int .i64 (8 : Int)), (.int .i64 (1000 : Int))] h8 (fun v10 h11 => (∃ p12 : Option Addr, ∃ n13 : Int, v10 = (.tuple #[(.pointer p12), (.int .i64 n13)]) ∧ bcase (n13 != (0 : Int)) (K (.bool false) h11) (ldI .u64 (rd h11 (Addr.add (Addr.mk b1 0 none) 0)) (fun n14 => ldI .u64 (rd h11 (Addr.add (Addr.mk b1 0 none) 1)) (fun n15 => ldI .u64 (rd h11 (Addr.add (Addr.mk b1 0 none) 2)) (fun n16 => ldI .u64 (rd h11 (Addr.add (Addr.mk b1 0 none) 3)) (fun n17 => CallsH Tryz.prog 13 [(.pointer p12), (.agg #[(.int .u64 n14), (.int .u64 n15), (.int .u64 n16), (.int .u64 n17)])] h11 (fun v18 h19 => (∃ n20 : Int, ∃ b21 : Bool, v18 = (.tuple #[(.int .u32 n20), (.bool b21)]) ∧ ldI .u64 (rd h19 (Addr.add (Addr.mk b3 0 none) 0)) (fun n22 => ldI .u64 (rd h19 (Addr.add (Addr.mk b3 0 none) 1)) (fun n23 => ldI .u64 (rd h19 (Addr.add (Addr.mk b3 0 none) 2)) (fun n24 => ldI .u64 (rd h19 (Addr.add (Addr.mk b3 0 none) 3)) (fun n25 => CallsH Tryz.prog 13 [(.pointer p12), (.agg #[(.int .u64 n22), (.int .u64 n23), (.int .u64 n24), (.int .u64 n25)])] h19 (fun v26 h27 => (∃ n28 : Int, ∃ b29 : Bool, v26 = (.tuple #[(.int .u32 n28), (.bool b29)]) ∧ CallsH Tryz.prog 25 [(.pointer p12), (.int .u32 n20), (.int .u32 n28)] h27 (fun v30 h31 => (∃ n32 : Int, ∃ n33 : Int, v30 = (.tuple #[(.int .u32 n32), (.int .i64 n33)]) ∧ k11 (Addr.mk b5 0 none) p12 n20 b21 n28 b29 n32 n33 none 0 0 (0 : Int) h31)))))))))))))))))))))))
theorem E0 (S : Stop) (x0_0 x0_1 x0_2 x0_3 x1_0 x1_1 x1_2 x1_3 x2_0 x2_1 x2_2 x2_3 x2_4 x2_5 x2_6 x2_7 : Int) (h : Heap) (K : KK) : (E Tryz.prog X T S body (fin Tryz.prog Tryz.f9.results.toList K) (args0 0 [(.agg #[(.int .u64 x0_0), (.int .u64 x0_1), (.int .u64 x0_2), (.int .u64 x0_3)]), (.agg #[(.int .u64 x1_0), (.int .u64 x1_1), (.int .u64 x1_2), (.int .u64 x1_3)]), (.agg #[(.int .i8 x2_0), (.int .i8 x2_1), (.int .i8 x2_2), (.int .i8 x2_3), (.int .i8 x2_4), (.int .i8 x2_5), (.int .i8 x2_6), (.int .i8 x2_7)])]) h) = J0 (fun x5 x7 x9 x10 x11 x12 x13 x14 x15p x15l x15c x16 h => S (en S [1, 1, 1, 1, 1, 1, 1, 1, 0, 1] (c0 S K)) (f11 x5 x7 x9 x10 x11 x12 x13 x14 x15p x15l x15c x16) h) x0_0 x0_1 x0_2 x0_3 x1_0 x1_1 x1_2 x1_3 x2_0 x2_1 x2_2 x2_3 x2_4 x2_5 x2_6 x2_7 h K := by kernel_rfl
def Jk11 (lp11 : Addr → (Option Addr) → Int → Bool → Int → Bool → Int → Int → (Option Addr) → Nat → Nat → Int → Heap → Prop) (x5 : Addr) (x7 : Option Addr) (x9 : Int) (x10 : Bool) (x11 : Int) (x12 : Bool) (x13 x14 : Int) (x15p : Option Addr) (x15l x15c : Nat) (x16 : Int) (h : Heap) (_K : KK) : Prop :=
  lp11 x5 x7 x9 x10 x11 x12 x13 x14 x15p x15l x15c x16 h
theorem Ek11 (S : Stop) (x5 : Addr) (x7 : Option Addr) (x9 : Int) (x10 : Bool) (x11 : Int) (x12 : Bool) (x13 x14 : Int) (x15p : Option Addr) (x15l x15c : Nat) (x16 : Int) (h : Heap) (K : KK) : (en S [1, 1, 1, 1, 1, 1, 1, 1, 0, 1] (c0 S K) (f11 x5 x7 x9 x10 x11 x12 x13 x14 x15p x15l x15c x16) h) = Jk11 (fun x5 x7 x9 x10 x11 x12 x13 x14 x15p x15l x15c x16 h => ∃ n, S (ln S [1, 1, 1, 1, 1, 1, 1, 1, 0, 1, 0, 0] (c1 S K) n) (f11 x5 x7 x9 x10 x11 x12 x13 x14 x15p x15l x15c x16) h) x5 x7 x9 x10 x11 x12 x13 x14 x15p x15l x15c x16 h K := by kernel_rfl
def JL11 (bk11 : Addr → (Option Addr) → Int → Bool → Int → Bool → Int → Int → (Option Addr) → Nat → Nat → Int → Heap → Prop) (k14 : (Option Addr) → Int → Bool → Int → Bool → Int → Int → (Option Addr) → Nat → Nat → Heap → Prop) (x5 : Addr) (x7 : Option Addr) (x9 : Int) (x10 : Bool) (x11 : Int) (x12 : Bool) (x13 x14 : Int) (x15p : Option Addr) (x15l x15c : Nat) (x16 : Int) (h : Heap) (_K : KK) : Prop :=
  bcase (decide (x16 < (8 : Int))) ((0 ≤ x16 ∧ x16 < (Nat.cast 8 : Int) ∧ ldI .i8 (rd h (Addr.add x5 (Int.toNat x16 * 1))) (fun n1 => newK h (.cells #[(.int .i64 (IntKind.wrap .i64 n1))] 3) (fun b2 h3 => appK h3 3 1 8 #[(.int .i64 (0 : Int))] x15p x15l x15c (some (Addr.mk b2 0 none)) 1 (fun p4 l5 c6 h7 => bk11 x5 x7 x9 x10 x11 x12 x13 x14 p4 l5 c6 (IntKind.wrap .i64 (x16 + (1 : Int))) h7))))) (k14 x7 x9 x10 x11 x12 x13 x14 x15p x15l x15c h)
theorem EL11 (S : Stop) (n11 : Nat) (x5 : Addr) (x7 : Option Addr) (x9 : Int) (x10 : Bool) (x11 : Int) (x12 : Bool) (x13 x14 : Int) (x15p : Option Addr) (x15l x15c : Nat) (x16 : Int) (h : Heap) (K : KK) : (en S [1, 1, 1, 1, 1, 1, 1, 1, 0, 1, 0, 0] (c2 S n11 K) (f11 x5 x7 x9 x10 x11 x12 x13 x14 x15p x15l x15c x16) h) = JL11 (fun x5 x7 x9 x10 x11 x12 x13 x14 x15p x15l x15c x16 h => S (ln S [1, 1, 1, 1, 1, 1, 1, 1, 0, 1, 0, 0] (c1 S K) n11) (f11 x5 x7 x9 x10 x11 x12 x13 x14 x15p x15l x15c x16) h) (fun x7 x9 x10 x11 x12 x13 x14 x15p x15l x15c h => S (en S [1, 1, 1, 1, 1, 1, 1, 1, 1] (fn K)) (f14 x7 x9 x10 x11 x12 x13 x14 x15p x15l x15c) h) x5 x7 x9 x10 x11 x12 x13 x14 x15p x15l x15c x16 h K := by kernel_rfl
def Jk14 (x7 : Option Addr) (x9 : Int) (x10 : Bool) (x11 : Int) (x12 : Bool) (x13 x14 : Int) (x15p : Option Addr) (x15l x15c : Nat) (h : Heap) (K : KK) : Prop :=
  CallsH Tryz.prog 17 [(.pointer x7), (.int .u32 x9), (.slice x15p x15l x15c)] h (fun v1 h2 => (∃ n3 : Int, ∃ n4 : Int, ∃ b5 : Bool, ∃ n6 : Int, v1 = (.tuple #[(.int .u8 n3), (.int .i64 n4), (.bool b5), (.int .i64 n6)]) ∧ CallsH Tryz.prog 17 [(.pointer x7), (.int .u32 x11), (.slice x15p x15l x15c)] h2 (fun v7 h8 => (∃ n9 : Int, ∃ n10 : Int, ∃ b11 : Bool, ∃ n12 : Int, v7 = (.tuple #[(.int .u8 n9), (.int .i64 n10), (.bool b11), (.int .i64 n12)]) ∧ CallsH Tryz.prog 17 [(.pointer x7), (.int .u32 x13), (.slice x15p x15l x15c)] h8 (fun v13 h14 => (∃ n15 : Int, ∃ n16 : Int, ∃ b17 : Bool, ∃ n18 : Int, v13 = (.tuple #[(.int .u8 n15), (.int .i64 n16), (.bool b17), (.int .i64 n18)]) ∧ (0 ≤ (8 : Int) ∧ (8 : Int) ≤ (8 : Int) ∧ ((Nat.cast 8 : Int) * (8 : Int) ≤ 281474976710656) ∧ (8 : Int) ≤ 9223372036854775807 ∧ newK h14 (.cells (madeCells #[(.int .i64 (0 : Int))] (Int.toNat (8 : Int) * 1)) 3) (fun b19 h20 => CallsH Tryz.prog 17 [(.pointer x7), (.int .u32 x9), (.slice (some (Addr.mk b19 0 none)) (Int.toNat (8 : Int)) (Int.toNat (8 : Int)))] h20 (fun v21 h22 => (∃ n23 : Int, ∃ n24 : Int, ∃ b25 : Bool, ∃ n26 : Int, v21 = (.tuple #[(.int .u8 n23), (.int .i64 n24), (.bool b25), (.int .i64 n26)]) ∧ CallsH Tryz.prog 26 [(.pointer x7), (.int .u32 x9)] h22 (fun v27 h28 => (∃ n29 : Int, ∃ b30 : Bool, ∃ n31 : Int, v27 = (.tuple #[(.int .u8 n29), (.bool b30), (.int .i64 n31)]) ∧ bcase (!x10) (K (.bool false) h28) (bcase (!x12) (K (.bool false) h28) (bcase (x14 != (0 : Int)) (K (.bool false) h28) (bcase (n6 != (0 : Int)) (K (.bool false) h28) (bcase (n12 != (0 : Int)) (K (.bool false) h28) (bcase (n18 != (0 : Int)) (K (.bool false) h28) (bcase (n26 != (0 : Int)) (K (.bool false) h28) (bcase (n31 != (0 : Int)) (K (.bool false) h28) (bcase b5 (bcase (!(b17 == true)) (K (.bool false) h28) (bcase (!(b25 == b30)) (K (.bool false) h28) (bcase (n24 != (0 : Int)) (K (.bool false) h28) (bcase (n23 != n29) (K (.bool false) h28) (bcase (!b17) (bcase (n15 == (0 : Int)) (K (.bool (n16 == (0 : Int))) h28) (K (.bool false) h28)) (bcase b5 (bcase (!b11) (bcase (n15 == n3) (K (.bool (n16 == n4)) h28) (K (.bool false) h28)) (bcase (decide (n4 < n10)) (bcase (n15 == n3) (K (.bool (n16 == n4)) h28) (K (.bool false) h28)) (bcase (n4 == n10) (bcase (decide (n3 < n9)) (bcase (n15 == n3) (K (.bool (n16 == n4)) h28) (K (.bool false) h28)) (bcase (n15 == n9) (K (.bool (n16 == n10)) h28) (K (.bool false) h28))) (bcase (n15 == n9) (K (.bool (n16 == n10)) h28) (K (.bool false) h28))))) (bcase (n15 == n9) (K (.bool (n16 == n10)) h28) (K (.bool false) h28)))))))) (bcase (!(b17 == b11)) (K (.bool false) h28) (bcase (!(b25 == b30)) (K (.bool false) h28) (bcase (n24 != (0 : Int)) (K (.bool false) h28) (bcase (n23 != n29) (K (.bool false) h28) (bcase (!b17) (bcase (n15 == (0 : Int)) (K (.bool (n16 == (0 : Int))) h28) (K (.bool false) h28)) (bcase b5 (bcase (!b11) (bcase (n15 == n3) (K (.bool (n16 == n4)) h28) (K (.bool false) h28)) (bcase (decide (n4 < n10)) (bcase (n15 == n3) (K (.bool (n16 == n4)) h28) (K (.bool false) h28)) (bcase (n4 == n10) (bcase (decide (n3 < n9)) (bcase (n15 == n3) (K (.bool (n16 == n4)) h28) (K (.bool false) h28)) (bcase (n15 == n9) (K (.bool (n16 == n10)) h28) (K (.bool false) h28))) (bcase (n15 == n9) (K (.bool (n16 == n10)) h28) (K (.bool false) h28))))) (bcase (n15 == n9) (K (.bool (n16 == n10)) h28) (K (.bool false) h28))))))))))))))))))))))))))))
theorem Ek14 (S : Stop) (x7 : Option Addr) (x9 : Int) (x10 : Bool) (x11 : Int) (x12 : Bool) (x13 x14 : Int) (x15p : Option Addr) (x15l x15c : Nat) (h : Heap) (K : KK) : (en S [1, 1, 1, 1, 1, 1, 1, 1, 1] (fn K) (f14 x7 x9 x10 x11 x12 x13 x14 x15p x15l x15c) h) = Jk14 x7 x9 x10 x11 x12 x13 x14 x15p x15l x15c h K := by kernel_rfl
def wk14 (x7 : Option Addr) (x9 : Int) (x10 : Bool) (x11 : Int) (x12 : Bool) (x13 x14 : Int) (x15p : Option Addr) (x15l x15c : Nat) (h : Heap) (K : KK) : Prop :=
  Jk14 x7 x9 x10 x11 x12 x13 x14 x15p x15l x15c h K
theorem ek14 (K : KK) (x7 : Option Addr) (x9 : Int) (x10 : Bool) (x11 : Int) (x12 : Bool) (x13 x14 : Int) (x15p : Option Addr) (x15l x15c : Nat) (h : Heap) : (en S0 [1, 1, 1, 1, 1, 1, 1, 1, 1] (fn K) (f14 x7 x9 x10 x11 x12 x13 x14 x15p x15l x15c) h) = wk14 x7 x9 x10 x11 x12 x13 x14 x15p x15l x15c h K := (Ek14 S0 x7 x9 x10 x11 x12 x13 x14 x15p x15l x15c h K).trans (rfl)
def wL11 : Nat → Addr → (Option Addr) → Int → Bool → Int → Bool → Int → Int → (Option Addr) → Nat → Nat → Int → Heap → KK → Prop
  | 0, _, _, _, _, _, _, _, _, _, _, _, _, _, _ => False
  | n + 1, x5, x7, x9, x10, x11, x12, x13, x14, x15p, x15l, x15c, x16, h, K => JL11 (fun x5 x7 x9 x10 x11 x12 x13 x14 x15p x15l x15c x16 h => wL11 n x5 x7 x9 x10 x11 x12 x13 x14 x15p x15l x15c x16 h K) (fun x7 x9 x10 x11 x12 x13 x14 x15p x15l x15c h => wk14 x7 x9 x10 x11 x12 x13 x14 x15p x15l x15c h K) x5 x7 x9 x10 x11 x12 x13 x14 x15p x15l x15c x16 h K
theorem eL11 (K : KK) : ∀ (n : Nat) (x5 : Addr) (x7 : Option Addr) (x9 : Int) (x10 : Bool) (x11 : Int) (x12 : Bool) (x13 x14 : Int) (x15p : Option Addr) (x15l x15c : Nat) (x16 : Int) (h : Heap), (ln S0 [1, 1, 1, 1, 1, 1, 1, 1, 0, 1, 0, 0] (c1 S0 K) n (f11 x5 x7 x9 x10 x11 x12 x13 x14 x15p x15l x15c x16) h) = wL11 n x5 x7 x9 x10 x11 x12 x13 x14 x15p x15l x15c x16 h K
  | 0, _, _, _, _, _, _, _, _, _, _, _, _, _ => rfl
  | n + 1, x5, x7, x9, x10, x11, x12, x13, x14, x15p, x15l, x15c, x16, h => (EL11 S0 n x5 x7 x9 x10 x11 x12 x13 x14 x15p x15l x15c x16 h K).trans (cg2 (fun q0 q1 => JL11 q0 q1 x5 x7 x9 x10 x11 x12 x13 x14 x15p x15l x15c x16 h K) (by funext x5 x7 x9 x10 x11 x12 x13 x14 x15p x15l x15c x16 h; exact (fun x5 x7 x9 x10 x11 x12 x13 x14 x15p x15l x15c x16 h => eL11 K n x5 x7 x9 x10 x11 x12 x13 x14 x15p x15l x15c x16 h) x5 x7 x9 x10 x11 x12 x13 x14 x15p x15l x15c x16 h) (by funext x7 x9 x10 x11 x12 x13 x14 x15p x15l x15c h; exact ek14 K x7 x9 x10 x11 x12 x13 x14 x15p x15l x15c h))
def wk11 (x5 : Addr) (x7 : Option Addr) (x9 : Int) (x10 : Bool) (x11 : Int) (x12 : Bool) (x13 x14 : Int) (x15p : Option Addr) (x15l x15c : Nat) (x16 : Int) (h : Heap) (K : KK) : Prop :=
  Jk11 (fun x5 x7 x9 x10 x11 x12 x13 x14 x15p x15l x15c x16 h => ∃ m, wL11 m x5 x7 x9 x10 x11 x12 x13 x14 x15p x15l x15c x16 h K) x5 x7 x9 x10 x11 x12 x13 x14 x15p x15l x15c x16 h K
theorem ek11 (K : KK) (x5 : Addr) (x7 : Option Addr) (x9 : Int) (x10 : Bool) (x11 : Int) (x12 : Bool) (x13 x14 : Int) (x15p : Option Addr) (x15l x15c : Nat) (x16 : Int) (h : Heap) : (en S0 [1, 1, 1, 1, 1, 1, 1, 1, 0, 1] (c0 S0 K) (f11 x5 x7 x9 x10 x11 x12 x13 x14 x15p x15l x15c x16) h) = wk11 x5 x7 x9 x10 x11 x12 x13 x14 x15p x15l x15c x16 h K := (Ek11 S0 x5 x7 x9 x10 x11 x12 x13 x14 x15p x15l x15c x16 h K).trans (cg1 (fun q0 => Jk11 q0 x5 x7 x9 x10 x11 x12 x13 x14 x15p x15l x15c x16 h K) (by funext x5 x7 x9 x10 x11 x12 x13 x14 x15p x15l x15c x16 h; exact ex_congr fun m => eL11 K m x5 x7 x9 x10 x11 x12 x13 x14 x15p x15l x15c x16 h))
def w (x0_0 x0_1 x0_2 x0_3 x1_0 x1_1 x1_2 x1_3 x2_0 x2_1 x2_2 x2_3 x2_4 x2_5 x2_6 x2_7 : Int) (h : Heap) (K : KK) : Prop :=
  J0 (fun x5 x7 x9 x10 x11 x12 x13 x14 x15p x15l x15c x16 h => wk11 x5 x7 x9 x10 x11 x12 x13 x14 x15p x15l x15c x16 h K) x0_0 x0_1 x0_2 x0_3 x1_0 x1_1 x1_2 x1_3 x2_0 x2_1 x2_2 x2_3 x2_4 x2_5 x2_6 x2_7 h K
theorem e0 (K : KK) (x0_0 x0_1 x0_2 x0_3 x1_0 x1_1 x1_2 x1_3 x2_0 x2_1 x2_2 x2_3 x2_4 x2_5 x2_6 x2_7 : Int) (h : Heap) : (E Tryz.prog X T S0 body (fin Tryz.prog Tryz.f9.results.toList K) (args0 0 [(.agg #[(.int .u64 x0_0), (.int .u64 x0_1), (.int .u64 x0_2), (.int .u64 x0_3)]), (.agg #[(.int .u64 x1_0), (.int .u64 x1_1), (.int .u64 x1_2), (.int .u64 x1_3)]), (.agg #[(.int .i8 x2_0), (.int .i8 x2_1), (.int .i8 x2_2), (.int .i8 x2_3), (.int .i8 x2_4), (.int .i8 x2_5), (.int .i8 x2_6), (.int .i8 x2_7)])]) h) = w x0_0 x0_1 x0_2 x0_3 x1_0 x1_1 x1_2 x1_3 x2_0 x2_1 x2_2 x2_3 x2_4 x2_5 x2_6 x2_7 h K := (E0 S0 x0_0 x0_1 x0_2 x0_3 x1_0 x1_1 x1_2 x1_3 x2_0 x2_1 x2_2 x2_3 x2_4 x2_5 x2_6 x2_7 h K).trans (cg1 (fun q0 => J0 q0 x0_0 x0_1 x0_2 x0_3 x1_0 x1_1 x1_2 x1_3 x2_0 x2_1 x2_2 x2_3 x2_4 x2_5 x2_6 x2_7 h K) (by funext x5 x7 x9 x10 x11 x12 x13 x14 x15p x15l x15c x16 h; exact ek11 K x5 x7 x9 x10 x11 x12 x13 x14 x15p x15l x15c x16 h))
theorem hb : Tryz.f9.body = some body := by kernel_rfl
theorem ok : okCode T Tryz.f9.ntmps body = true := by kernel_rfl
theorem spec (x0_0 : Int) (x0_1 : Int) (x0_2 : Int) (x0_3 : Int) (x1_0 : Int) (x1_1 : Int) (x1_2 : Int) (x1_3 : Int) (x2_0 : Int) (x2_1 : Int) (x2_2 : Int) (x2_3 : Int) (x2_4 : Int) (x2_5 : Int) (x2_6 : Int) (x2_7 : Int) (h : Heap) (K : KK) (H : w x0_0 x0_1 x0_2 x0_3 x1_0 x1_1 x1_2 x1_3 x2_0 x2_1 x2_2 x2_3 x2_4 x2_5 x2_6 x2_7 h K) : CallsH Tryz.prog 9 [(.agg #[(.int .u64 x0_0), (.int .u64 x0_1), (.int .u64 x0_2), (.int .u64 x0_3)]), (.agg #[(.int .u64 x1_0), (.int .u64 x1_1), (.int .u64 x1_2), (.int .u64 x1_3)]), (.agg #[(.int .i8 x2_0), (.int .i8 x2_1), (.int .i8 x2_2), (.int .i8 x2_3), (.int .i8 x2_4), (.int .i8 x2_5), (.int .i8 x2_6), (.int .i8 x2_7)])] h K :=
  calls_of_E (T := T) Xok mix Tryz.func9 hb ok rfl (by rw [e0]; exact H)
end F9
end Go.Proofs.YtnbnlhpleomaoaaGreat.Ev
/- THE LAWS OF LAYER 30: the cheapest of an or (WeighBests). Conditions: the arguments are in their kinds' bounds. -/
namespace Go.Proofs.YtnbnlhpleomaoaaGreat.Ev
open Go
theorem best_any {c c' : List Int} {l : List Nat} (hl : l.Pairwise (· < ·)) : (bestF c l).2 = (bestF c' l).2 := by
  have key : ∀ {c c' : List Int}, (bestF c l).2 = true → (bestF c' l).2 = true := fun {c c'} h => (bestF_le (c := c') hl _ (bestF_mem h)).1
  cases h1 : (bestF c l).2 with
  | true => exact (key h1).symm
  | false =>
    cases h2 : (bestF c' l).2 with
    | true =>
      have := key (c' := c) h2
      rw [h1] at this
      exact this
    | false => rfl
theorem one26' {h : Heap} {s a : Nat} {L : List Nat} {X : SX} {K : Value → Heap → Prop} (H : Sto h s L X) (hXn : X.n = 8) (hXf : X.f = fill 8) (ha : isN X.N a)
    (hK : ∀ h', Only [] h h' → K (.tuple #[.int .u8 ((bestF (List.replicate 8 0) (trs (sm 8 (fill 8) X.N a) 256)).1 : Int), .bool (bestF (List.replicate 8 0) (trs (sm 8 (fill 8) X.N a) 256)).2, .int .i64 0]) h') :
    CallsH Tryz.prog 26 [.pointer (some ⟨s, 0, none⟩), .int .u32 (a : Int)] h K := by
  have f8 : ∀ j, j < X.n → X.f j < 8 := by rw [hXn, hXf]; exact fill_8 (by decide)
  have sa := trs_sorted (sm 8 (fill 8) X.N a) 256
  refine one26 H f8 ha (fun h' r hr h1 h2 O => ?_) fun h' h2 O => ?_
  · rw [hXn, hXf] at h1
    have e : bestF (List.replicate 8 0) (trs (sm 8 (fill 8) X.N a) 256) = (r, true) := best_uniq sa (trs_mem.2 ⟨hr, h1⟩) fun x hx => by
      refine .inr ⟨by rw [cst_zero, cst_zero], ?_⟩
      apply Classical.byContradiction
      intro hn
      have h3 := h2 x (by omega)
      rw [hXn, hXf] at h3
      have h4 := (trs_mem.1 hx).2
      rw [h3] at h4
      cases h4
    have := hK h' O
    rw [e] at this
    exact this
  · have e : trs (sm 8 (fill 8) X.N a) 256 = [] := by
      apply List.eq_nil_iff_forall_not_mem.2
      intro x hx
      obtain ⟨h3, h4⟩ := trs_mem.1 hx
      have h5 := h2 x h3
      rw [hXn, hXf, h4] at h5
      cases h5
    have := hK h' O
    rw [e] at this
    exact this
set_option maxRecDepth 100000 in
theorem bests_tail {h0 h : Heap} {s a b o cap : Nat} {p : Option Addr} {w : List Int} {L : List Nat} {X : SX} (lw : w.length = 8) (hw : ∀ y ∈ w, -128 ≤ y ∧ y ≤ 127) (hXn : X.n = 8) (hXf : X.f = fill 8) (S : Sto h s L X) (ha : isN X.N a) (hb : isN X.N b) (ho : isN X.N o)
    (hs : ∀ x, sm 8 (fill 8) X.N o x = (sm 8 (fill 8) X.N a x || sm 8 (fill 8) X.N b x)) (I : Ints h .i64 p w) (O : Only [] h0 h) :
    F9.wk14 (some ⟨s, 0, none⟩) (a : Int) true (b : Int) true (o : Int) 0 p 8 cap h (Lawful h0) := by
  unfold F9.wk14 F9.Jk14
  have hbad := badC_i8 hw
  have f8 : ∀ j, j < X.n → X.f j < 8 := by rw [hXn, hXf]; exact fill_8 (by decide)
  have b17 : ∀ {h' : Heap} {y cp : Nat} {q : Option Addr} {c : List Int} {K : Value → Heap → Prop}, Sto h' s L X → isN X.N y → c.length = 8 → badC c = false → Ints h' .i64 q c →
      (∀ h'', Only [] h' h'' → K (.tuple #[.int .u8 ((bestF c (trs (sm 8 (fill 8) X.N y) 256)).1 : Int), .int .i64 (bestV c (trs (sm 8 (fill 8) X.N y) 256)), .bool (bestF c (trs (sm 8 (fill 8) X.N y) 256)).2, .int .i64 0]) h'') →
      CallsH Tryz.prog 17 [.pointer (some ⟨s, 0, none⟩), .int .u32 (y : Int), .slice q 8 cp] h' K := fun {h' y cp q c K} S hy lc hb I hK => by
    have := best17 (cc := cp) (K := K) S f8 hy I (by rw [hXn]; exact lc) hb (by rw [hXn, hXf]; exact hK)
    rw [lc] at this
    exact this
  refine b17 S ha lw hbad I fun k1 P1 => ⟨_, _, _, _, rfl, ?_⟩
  have S1 := S.only0 P1
  have I1 := I.only P1 (by simp)
  refine b17 S1 hb lw hbad I1 fun k2 P2 => ⟨_, _, _, _, rfl, ?_⟩
  have S2 := S1.only0 P2
  have I2 := I1.only P2 (by simp)
  refine b17 S2 ho lw hbad I2 fun k3 P3 => ⟨_, _, _, _, rfl, ?_⟩
  have S3 := S2.only0 P3
  refine ⟨by omega, by omega, by omega, by omega, newK_at fun k4 A4 P4 z4 => ?_⟩
  have hz : ∀ k, ((madeCells #[Value.int .i64 0] k).toList) = (List.replicate k (0 : Int)).map (Value.int .i64) := fun k => by
    rw [toList_madeCells_one]
    simp
  rw [hz] at A4
  have S4 := S3.only0 P4
  refine b17 (c := List.replicate 8 0) S4 ha (by simp) (by decide) (ints_at A4) fun k5 P5 => ⟨_, _, _, _, rfl, ?_⟩
  have S5 := S4.only0 P5
  have O5 := ((((O.trans P1 (by simp)).trans P2 (by simp)).trans P3 (by simp)).trans P4 (by simp)).trans P5 (by simp)
  -- what is known
  have sa := trs_sorted (sm 8 (fill 8) X.N a) 256
  have sb := trs_sorted (sm 8 (fill 8) X.N b) 256
  have so := trs_sorted (sm 8 (fill 8) X.N o) 256
  have hm : ∀ x, x ∈ trs (sm 8 (fill 8) X.N o) 256 ↔ x ∈ trs (sm 8 (fill 8) X.N a) 256 ∨ x ∈ trs (sm 8 (fill 8) X.N b) 256 := fun x => by
    rw [trs_mem, trs_mem, trs_mem, hs x, Bool.or_eq_true]
    constructor
    · rintro ⟨h1, h2 | h2⟩
      · exact .inl ⟨h1, h2⟩
      · exact .inr ⟨h1, h2⟩
    · rintro (⟨h1, h2⟩ | ⟨h1, h2⟩)
      · exact ⟨h1, .inl h2⟩
      · exact ⟨h1, .inr h2⟩
  have hno := or_none (c := w) (ta := trs (sm 8 (fill 8) X.N a) 256) (tb := trs (sm 8 (fill 8) X.N b) 256) hm
  have hle := or_left (c := w) sa sb so hm
  have hri := or_right (c := w) sa sb so hm
  have hzero : bestV (List.replicate 8 0) (trs (sm 8 (fill 8) X.N a) 256) = 0 := by
    unfold bestV
    split
    · exact cst_zero _ _ _
    · rfl
  have hvo : ∀ {y : Nat}, bestF w (trs (sm 8 (fill 8) X.N o) 256) = bestF w (trs (sm 8 (fill 8) X.N y) 256) → bestV w (trs (sm 8 (fill 8) X.N o) 256) = bestV w (trs (sm 8 (fill 8) X.N y) 256) := fun e => by unfold bestV; rw [e]
  have hvn : bestF w (trs (sm 8 (fill 8) X.N o) 256) = (0, false) → bestV w (trs (sm 8 (fill 8) X.N o) 256) = 0 := fun e => by unfold bestV; rw [e]; rfl
  have hZ := best_any (c := List.replicate 8 0) (c' := w) sa
  refine one26' S5 hXn hXf ha fun k6 P6 => ⟨_, _, _, rfl, ?_⟩
  have O6 := O5.trans P6 (by simp)
  rw [hZ, hzero]
  have n0 : ((0 : Int) != 0) = false := rfl
  have nx : ∀ x : Int, (x != x) = false := fun x => by simp
  simp only [Bool.not_true, bcase_false, n0, nx, beq_self_eq_true]
  have okL : bestF w (trs (sm 8 (fill 8) X.N o) 256) = bestF w (trs (sm 8 (fill 8) X.N a) 256) → _ := fun e => hvo (y := a) e
  have okR : bestF w (trs (sm 8 (fill 8) X.N o) 256) = bestF w (trs (sm 8 (fill 8) X.N b) 256) → _ := fun e => hvo (y := b) e
  clear hvo hzero hZ hm
  generalize bestV w (trs (sm 8 (fill 8) X.N o) 256) = Vo at *
  generalize bestV w (trs (sm 8 (fill 8) X.N a) 256) = Va at *
  generalize bestV w (trs (sm 8 (fill 8) X.N b) 256) = Vb at *
  generalize bestF w (trs (sm 8 (fill 8) X.N o) 256) = Fo at *
  generalize bestF w (trs (sm 8 (fill 8) X.N a) 256) = Fa at *
  generalize bestF w (trs (sm 8 (fill 8) X.N b) 256) = Fb at *
  obtain ⟨xo, oko⟩ := Fo
  obtain ⟨xa, oka⟩ := Fa
  obtain ⟨xb, okb⟩ := Fb
  dsimp only at *
  cases oka with
  | false =>
    rw [bcase_false]
    cases okb with
    | false =>
      have e := hno rfl rfl
      have ev := hvn e
      injection e with e1 e2
      subst e1 e2 ev
      simp [bcase_false, bcase_true]
      exact ⟨rfl, O6⟩
    | true =>
      have e := hri rfl (.inl rfl)
      have ev := okR e
      injection e with e1 e2
      subst e1 e2 ev
      simp [bcase_false, bcase_true]
      exact ⟨rfl, O6⟩
  | true =>
    rw [bcase_true]
    cases okb with
    | false =>
      have e := hle rfl (.inl rfl)
      have ev := okL e
      injection e with e1 e2
      subst e1 e2 ev
      simp [bcase_false, bcase_true]
      exact ⟨rfl, O6⟩
    | true =>
      by_cases hlt : Va < Vb
      · have e := hle rfl (.inr (.inl hlt))
        have ev := okL e
        injection e with e1 e2
        subst e1 e2 ev
        simp [bcase_false, bcase_true, hlt]
        exact ⟨rfl, O6⟩
      · by_cases heq : Va = Vb
        · subst heq
          by_cases hx : xa < xb
          · have e := hle rfl (.inr (.inr ⟨rfl, by omega⟩))
            have ev := okL e
            injection e with e1 e2
            subst e1 e2 ev
            simp [bcase_false, bcase_true, hx]
            exact ⟨rfl, O6⟩
          · have e := hri rfl (.inr (.inr ⟨rfl, by omega⟩))
            have ev := okR e
            injection e with e1 e2
            subst e1 e2 ev
            simp [bcase_false, bcase_true, hx]
            exact ⟨rfl, O6⟩
        · have e := hri rfl (.inr (.inl (by omega)))
          have ev := okR e
          have hq : (Va == Vb) = false := by simp [heq]
          injection e with e1 e2
          subst e1 e2 ev
          rw [hq, bcase_false]
          simp [bcase_false, bcase_true, hlt]
          exact ⟨rfl, O6⟩
set_option maxRecDepth 100000 in
theorem law9 (h : Heap) (z : List Int) (lz : z.length = 4) (rz : ∀ y ∈ z, IntKind.min .u64 ≤ y ∧ y ≤ IntKind.max .u64) (z' : List Int) (lz' : z'.length = 4) (rz' : ∀ y ∈ z', IntKind.min .u64 ≤ y ∧ y ≤ IntKind.max .u64) (w : List Int) (lw : w.length = 8) (rw_ : ∀ y ∈ w, IntKind.min .i8 ≤ y ∧ y ≤ IntKind.max .i8) :
    CallsH Tryz.prog 9 [.agg (z.map (Value.int .u64)).toArray, .agg (z'.map (Value.int .u64)).toArray, .agg (w.map (Value.int .i8)).toArray] h (Lawful h) := by
  obtain ⟨g, hg, eg⟩ := arrW lz rz
  obtain ⟨g', hg', eg'⟩ := arrW lz' rz'
  rw [eg, eg']
  have hw : ∀ y ∈ w, -128 ≤ y ∧ y ≤ 127 := fun y hy => rw_ y hy
  obtain ⟨y0, y1, y2, y3, y4, y5, y6, y7, ew⟩ : ∃ y0 y1 y2 y3 y4 y5 y6 y7 : Int, w = [y0, y1, y2, y3, y4, y5, y6, y7] := by
    match w, lw with
    | [a, b, c, d, e, f, g, h], _ => exact ⟨a, b, c, d, e, f, g, h, rfl⟩
  have hcells : (Value.agg (w.map (Value.int .i8)).toArray) = .agg #[.int .i8 y0, .int .i8 y1, .int .i8 y2, .int .i8 y3, .int .i8 y4, .int .i8 y5, .int .i8 y6, .int .i8 y7] := by rw [ew]; rfl
  have hrow : (#[Value.int .i8 y0, .int .i8 y1, .int .i8 y2, .int .i8 y3, .int .i8 y4, .int .i8 y5, .int .i8 y6, .int .i8 y7] : Array Value).toList = w.map (.int .i8) := by rw [ew]; rfl
  rw [hcells]
  clear hcells ew
  refine F9.spec _ _ _ _ _ _ _ _ _ _ _ _ _ _ _ _ h _ ?_
  unfold F9.w F9.J0
  refine newK_at fun h1 A1 O1 z1 => newK_at fun h2 B2 O2 z2 => newK_at fun h3 C3 O3 z3 => ?_
  rw [hrow] at C3
  replace A1 : At h1 h.size (wrow g) := A1
  replace B2 : At h2 h1.size (wrow g') := B2
  refine known10 fun h4 O4 => ldB_of rfl ?_
  rw [Bool.not_true, bcase_false]
  refine sto_new (n := 8) (room := 1000) (Q := QL 8 (fill 8) []) (by omega) (by omega) (by omega) (by omega) fun h5 s L S5 O5 g5 => ⟨_, _, rfl, ?_⟩
  rw [show ((0 : Int) != 0) = false from rfl, bcase_false]
  have A5 := (((A1.only O2 (by simp)).only O3 (by simp)).only O4 (by simp)).only O5 (by simp)
  have B5 := ((B2.only O3 (by simp)).only O4 (by simp)).only O5 (by simp)
  have C5 := (C3.only O4 (by simp)).only O5 (by simp)
  have O05 := (((O1.trans O2 (by simp)).trans O3 (by simp)).trans O4 (by simp)).trans O5 (by simp)
  have z34 := O4.size
  have z45 := O5.size
  have gl : ∀ b ∈ L, h3.size ≤ b := fun b hb => by have := g5 b hb; omega
  refine rd4 A5 ?_
  have hb := bdn_le (n := 8) (by omega)
  have S5 : Sto h5 s L (XL 8 1000 (fill 8) (fill 8) [] false) := S5
  have IN : ∀ {g : Nat → Nat}, ∀ v, v < 8 → (∀ j, j < 8 → fill 8 j ≠ v) → Indep (fb g) v := fun {g} => fill_indep (n := 8) (by decide) fun v hv hn => absurd (show 8 ≤ v from hn) (by omega)
  refine make13 S5 (fill_8 (n := 8) (by decide)) hg IN (by show clN (lst 8) [] + bdn 8 0 + 2 ≤ 1000; rw [cl_nil]; omega) fun h6 L6 N6 a E6 ha _ hc6 S6 O6 F6 => ⟨_, _, rfl, ?_⟩
  have S6' : Sto h6 s L6 (XL 8 1000 (fill 8) (fill 8) N6 false) := sto_XL S6 S5.ok.1 E6
  have hc6' : clN (lst 8) N6 + 1 ≤ 0 + bdn 8 0 := hc6
  have g6 : ∀ b ∈ L6, h3.size ≤ b := F6.ge gl (by omega)
  have O06 : Only [] h h6 := O05.grow O6 fun b hb => by have := gl b hb; omega
  have B6 := B5.only O6 (fun hm => by have := gl _ hm; omega)
  have C6 := C5.only O6 (fun hm => by have := gl _ hm; omega)
  have z56 := O6.size
  refine rd4 B6 ?_
  refine make13 S6' (fill_8 (n := 8) (by decide)) hg' IN (by show clN (lst 8) N6 + bdn 8 0 + 2 ≤ 1000; omega) fun h7 L7 N7 b E7 hb' _ hc7 S7 O7 F7 => ⟨_, _, rfl, ?_⟩
  have ok6 := S6'.ok.1
  have S7' : Sto h7 s L7 (XL 8 1000 (fill 8) (fill 8) N7 false) := sto_XL S7 ok6 E7
  have hc7' : clN (lst 8) N7 + 1 ≤ clN (lst 8) N6 + bdn 8 0 := hc7
  have g7 : ∀ b ∈ L7, h3.size ≤ b := F7.ge g6 (by omega)
  have O07 : Only [] h h7 := O06.grow O7 fun b hb => by have := g6 b hb; omega
  have C7 := C6.only O7 (fun hm => by have := g6 _ hm; omega)
  have z67 := O7.size
  have ha7 := E7.isN ha
  refine or25 S7' ha7 hb' (by omega) fun h8 L8 N8 o E8 ho hso hc8 S8 O8 F8 => ⟨_, _, rfl, ?_⟩
  have g8 : ∀ b ∈ L8, h3.size ≤ b := F8.ge g7 (by omega)
  have O08 : Only [] h h8 := O07.grow O8 fun b hb => by have := g7 b hb; omega
  have C8 := C7.only O8 (fun hm => by have := g7 _ hm; omega)
  have ha8 := E8.isN ha7
  have hb8 := E8.isN hb'
  unfold F9.wk11 F9.Jk11
  have main : ∀ (d i : Nat) (h' : Heap) (p : Option Addr) (cap : Nat), i + d = 8 → At h' h2.size (w.map (.int .i8)) → Sto h' s L8 (XL 8 1000 (fill 8) (fill 8) N8 false) → Only [] h h' → Own h' h8.size 1 p i cap ((w.take i).map (.int .i64)) → h8.size ≤ h'.size →
      F9.wL11 (d + 1) ⟨h2.size, 0, none⟩ (some ⟨s, 0, none⟩) (a : Int) true (b : Int) true (o : Int) 0 p i cap (i : Int) h' (Lawful h) := by
    intro d
    induction d with
    | zero =>
      intro i h' p cap hd A S O W hz
      have e : i = 8 := by omega
      subst e
      unfold F9.wL11 F9.JL11
      rw [decide_eq_false (by omega), bcase_false]
      rw [← lw, List.take_length, lw] at W
      have W' : Own h' h8.size 1 p w.length cap (w.map (.int .i64)) := by rw [lw]; exact W
      exact bests_tail lw hw rfl rfl S ha8 hb8 ho hso (own_ints W') O
    | succ d ih =>
      intro i h' p cap hd A S O W hz
      unfold F9.wL11 F9.JL11
      rw [decide_eq_true (by omega), bcase_true]
      refine ⟨by omega, by omega, app_w A (by omega) (by omega) hw W (by omega) fun p' c' h'' W' O' => ?_⟩
      have nO : h2.size ∉ OwnB p := fun hm => by have := (W.lt _ hm).1; have := O8.size; omega
      have A' := A.only O' nO
      have e2 : IntKind.wrap .i64 ((i : Int) + 1) = ((i + 1 : Nat) : Int) := by rw [wrap_i64 (by omega) (by omega)]; omega
      rw [e2]
      refine ih (i + 1) h'' p' c' (by omega) A' (S.only O' fun b hb hl => ?_) (O.trans O' fun b hb hl => ?_) W' (by have := O'.size; omega)
      · have := (W.lt _ hb).1
        have := S8.lt _ hl
        omega
      · have := (W.lt _ hb).1
        have := O08.size
        omega
  exact ⟨_, main 8 0 h8 none 0 (by omega) C8 S8 O08 (Own.nil _ _ _) (Nat.le_refl _)⟩
end Go.Proofs.YtnbnlhpleomaoaaGreat.Ev
