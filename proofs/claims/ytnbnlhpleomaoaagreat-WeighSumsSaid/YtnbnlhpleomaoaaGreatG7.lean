/- PART 7 OF WHAT THE LAW WeighSums STANDS ON: LogA4, LogB4, LogC4, LwI4, CntP4, LawH4. Conditions: each part names its own. -/
import Derived.Test.YtnbnlhpleomaoaaGreatG6
/- AND, OR, NOT (package logic), plainly: what an operation's node is; where it needs no node; the cache's entries. Conditions: the nodes are in order (NOk). -/
namespace Go.Proofs.YtnbnlhpleomaoaaGreat.Ev
open Go
/-- an operation on values -/
def opB (op : Nat) (x y z : Bool) : Bool := if op = 2 then x && y else if op = 3 then x || y else if op = 4 then x != y else if x then y else z
/-- r is the operation's node -/
structure OpR (n : Nat) (f : Nat → Nat) (N : List (Option Nd)) (op a b c r : Nat) : Prop where
  is : isN N r
  lv : ∀ k, k ≤ lvl n N a → k ≤ lvl n N b → k ≤ lvl n N c → k ≤ lvl n N r
  sm : ∀ x, sm n f N r x = opB op (sm n f N a x) (sm n f N b x) (sm n f N c x)
theorem OpR.ext {n : Nat} {f : Nat → Nat} {N N' : List (Option Nd)} {op a b c r : Nat} (R : OpR n f N op a b c r) (H : NOk n N) (E : Ex N N') (ha : isN N a) (hb : isN N b) (hc : isN N c) : OpR n f N' op a b c r :=
  ⟨E.isN R.is, fun k h1 h2 h3 => by
    rw [E.lvl ha] at h1
    rw [E.lvl hb] at h2
    rw [E.lvl hc] at h3
    rw [E.lvl R.is]
    exact R.lv k h1 h2 h3, fun x => by rw [E.sm H R.is, E.sm H ha, E.sm H hb, E.sm H hc, R.sm]⟩
/-- what the cache may hold -/
def QL (n : Nat) (f : Nat → Nat) (N : List (Option Nd)) (k v : Int) : Prop := ∃ op a b c r : Nat, k = (wkey op 0 a b c : Nat) ∧ v = (r : Int) ∧ op < 2 ^ 8 ∧ isN N a ∧ isN N b ∧ isN N c ∧ a < 2 ^ 16 ∧ b < 2 ^ 16 ∧ c < 2 ^ 16 ∧ OpR n f N op a b c r
theorem QL.ext {n : Nat} {f : Nat → Nat} {N N' : List (Option Nd)} {k v : Int} (Q : QL n f N k v) (H : NOk n N) (E : Ex N N') : QL n f N' k v := by
  obtain ⟨op, a, b, c, r, h1, h2, h3, h4, h5, h6, h7, h8, h9, R⟩ := Q
  exact ⟨op, a, b, c, r, h1, h2, h3, E.isN h4, E.isN h5, E.isN h6, h7, h8, h9, R.ext H E h4 h5 h6⟩
theorem QL.get {n : Nat} {f : Nat → Nat} {N : List (Option Nd)} {op a b c : Nat} {v : Int} (Q : QL n f N (wkey op 0 a b c : Nat) v) (ha : a < 2 ^ 16) (hb : b < 2 ^ 16) (hc : c < 2 ^ 16) : ∃ r : Nat, v = r ∧ OpR n f N op a b c r := by
  obtain ⟨op', a', b', c', r, h1, h2, h3, h4, h5, h6, h7, h8, h9, R⟩ := Q
  obtain ⟨e1, -, e2, e3, e4⟩ := wkey_inj (by decide) ha hb hc (by decide) h7 h8 h9 (Int.ofNat.inj h1)
  subst e1 e2 e3 e4
  exact ⟨r, h2, R⟩
theorem sto_Q {h : Heap} {s : Nat} {L : List Nat} {X : SX} (H : Sto h s L X) {Q' : Int → Int → Prop} (hQ : ∀ k v, X.Q k v → Q' k v) : Sto h s L { X with Q := Q' } := by
  obtain ⟨B, F, e, H⟩ := H
  obtain ⟨cs, o, fl, c1, c2⟩ := H.m.cac
  refine ⟨B, F, e, ⟨⟨H.m.S, H.m.O, H.m.own, H.m.fre, ⟨cs, o, fl, c1, fun l hl => ?_⟩, H.m.n8, H.m.len, H.m.sep⟩, H.t, H.ok, H.cnt, H.fre⟩⟩
  obtain ⟨g1, g2, g3, g4⟩ := c2 l hl
  exact ⟨g1, g2, g3, fun e => hQ _ _ (g4 e)⟩
/-- a store whose cache holds operations -/
def XL (n room : Nat) (f g : Nat → Nat) (N : List (Option Nd)) (off : Bool) : SX := ⟨n, room, f, g, N, QL n f N, off⟩
theorem sto_XL {h : Heap} {s n room : Nat} {f g : Nat → Nat} {L : List Nat} {N N' : List (Option Nd)} {off : Bool} (H : Sto h s L { XL n room f g N off with N := N' }) (ok : NOk n N) (E : Ex N N') : Sto h s L (XL n room f g N' off) :=
  sto_Q H fun _ _ h => QL.ext h ok E
/-- where it needs no node -/
def EndsOk (g op : Nat) : Prop := ∀ {h : Heap} {a b c : Nat} {K : Value → Heap → Prop},
  (∀ h' (r : Nat), Only [] h h' → (∀ n f N, NOk n N → isN N a → isN N b → isN N c → OpR n f N op a b c r) → K (.tuple #[.int .u32 (r : Int), .bool true]) h') →
  (∀ h' (r : Nat), Only [] h h' → (2 ≤ a ∨ 2 ≤ b ∨ 2 ≤ c) → K (.tuple #[.int .u32 (r : Int), .bool false]) h') →
  CallsH Tryz.prog g [.agg #[.int .u32 (a : Int), .int .u32 (b : Int), .int .u32 (c : Int)]] h K
theorem lvl_end {n : Nat} {N : List (Option Nd)} {a : Nat} (h : a < 2) : lvl n N a = n := by unfold lvl; rw [if_pos h]
theorem eq_cast {a b : Nat} : ((a : Int) == (b : Int)) = decide (a = b) := by
  by_cases h : a = b
  · subst h; simp
  · rw [decide_eq_false h]
    simp
    omega
theorem xor48 : EndsOk 48 4 := by
  intro h a b c K hT hF
  refine F48.spec _ _ _ h K ?_
  unfold F48.w F48.J0
  refine newK_at fun h1 A1 O1 z1 => ?_
  have r0 : rd h1 (Addr.add ⟨h.size, 0, none⟩ (Int.toNat (0 : Int) * 1)) = some (.int .u32 (a : Int)) := by rw [add_mk, At.rd A1]; rfl
  have r1 : rd h1 (Addr.add ⟨h.size, 0, none⟩ (Int.toNat (1 : Int) * 1)) = some (.int .u32 (b : Int)) := by rw [add_mk, At.rd A1]; rfl
  refine ⟨by omega, by omega, ldI_of r0 ⟨by omega, by omega, ldI_of r1 ?_⟩⟩
  rw [eq_cast]
  refine bcase_of (fun e => ?_) fun e => ⟨by omega, by omega, ldI_of r0 ?_⟩
  · have e := of_decide_eq_true e
    subst e
    refine hT h1 0 O1 fun n f N H ha hb hc => ⟨.inl (by omega), fun k h1 _ _ => by rw [lvl_end (a := 0) (by omega)]; have := lvl_le H ha; omega, fun x => ?_⟩
    rw [sm_const (by omega)]
    simp [opB]
  have e := of_decide_eq_false e
  rw [show (0 : Int) = ((0 : Nat) : Int) from rfl, eq_cast]
  refine bcase_of (fun e0 => ⟨by omega, by omega, ldI_of r1 ?_⟩) fun e0 => ⟨by omega, by omega, ldI_of r1 ?_⟩
  · have e0 := of_decide_eq_true e0
    subst e0
    refine hT h1 b O1 fun n f N H ha hb hc => ⟨hb, fun k _ h2 _ => h2, fun x => ?_⟩
    rw [sm_const (a := 0) (by omega)]
    simp [opB]
  have e0 := of_decide_eq_false e0
  rw [eq_cast]
  refine bcase_of (fun e1 => ⟨by omega, by omega, ldI_of r0 ?_⟩) fun e1 => ⟨by omega, by omega, ldI_of r0 ?_⟩
  · have e1 := of_decide_eq_true e1
    subst e1
    refine hT h1 a O1 fun n f N H ha hb hc => ⟨ha, fun k h2 _ _ => h2, fun x => ?_⟩
    rw [sm_const (a := 0) (by omega)]
    simp [opB]
  have e1 := of_decide_eq_false e1
  refine bcase_of (fun e2 => ⟨by omega, by omega, ldI_of r1 ?_⟩) fun e2 => ?_
  · have e2 := of_decide_eq_true e2
    rw [decide_eq_false (by omega)]
    exact hF h1 1 O1 (by omega)
  · have e2 := of_decide_eq_false e2
    exact hF h1 1 O1 (by omega)
end Go.Proofs.YtnbnlhpleomaoaaGreat.Ev
/- AND, OR, NOT (package logic): the walk over the nodes. Conditions: the store stands (Sto), there is room. -/
namespace Go.Proofs.YtnbnlhpleomaoaaGreat.Ev
open Go
def sideV (side : Bool) : Value := .func (.func (if side then 69 else 68)) #[] #[]
def walkV (s op g : Nat) : Value := .agg #[.pointer (some ⟨s, 0, none⟩), .int .u8 (op : Int), .func (.func g) #[] #[]]
def arg3 (a b c : Nat) : Value := .agg #[.int .u32 (a : Int), .int .u32 (b : Int), .int .u32 (c : Int)]
theorem go68 : xget X 68 = some Ext.go := by kernel_rfl
theorem go69 : xget X 69 = some Ext.go := by kernel_rfl
theorem go48 : xget X 48 = some Ext.go := by kernel_rfl
/-- a node's child on a level -/
def ch (n : Nat) (N : List (Option Nd)) (l : Nat) (side : Bool) (a : Nat) : Nat := if lvl n N a = l then (if side then high N a else low N a) else a
section
variable {n : Nat} {f : Nat → Nat} {N N' : List (Option Nd)} {a l : Nat} {side : Bool}
theorem ch_is (H : NOk n N) (ha : isN N a) (hl : l ≤ lvl n N a) (hn : l < n) : isN N (ch n N l side a) ∧ l + 1 ≤ lvl n N (ch n N l side a) := by
  unfold ch
  by_cases e : lvl n N a = l
  · rw [if_pos e]
    have h2 : 2 ≤ a := by
      apply Classical.byContradiction
      intro h
      have := lvl_end (n := n) (N := N) (a := a) (by omega)
      omega
    obtain ⟨h3, h4, h5, -, h6, h7⟩ := H.at ha h2
    cases side with
    | true => exact ⟨h5, by rw [if_pos rfl]; omega⟩
    | false => exact ⟨h4, by rw [if_neg (by simp)]; omega⟩
  · rw [if_neg e]
    exact ⟨ha, by omega⟩
theorem ch_sm (H : NOk n N) (ha : isN N a) (hn : l < n) (x : Nat) : sm n f N a x = if x.testBit (f l) then sm n f N (ch n N l true a) x else sm n f N (ch n N l false a) x := by
  unfold ch
  by_cases e : lvl n N a = l
  · have h2 : 2 ≤ a := by
      apply Classical.byContradiction
      intro h
      have := lvl_end (n := n) (N := N) (a := a) (by omega)
      omega
    rw [if_pos e, if_pos e, sm_node H ha h2, e]
    rfl
  · rw [if_neg e, if_neg e]
    simp
theorem Ex.ch (E : Ex N N') (ha : Ev.isN N a) : ch n N' l side a = ch n N l side a := by
  unfold Ev.ch
  rw [E.lvl ha, E.low ha, E.high ha]
end
section
variable {h : Heap} {s : Nat} {L : List Nat} {X : SX}
theorem child110 {a l : Nat} {side : Bool} {K : Value → Heap → Prop} (H : Sto h s L X) (ha : isN X.N a) (hK : K (.int .u32 (ch X.n X.N l side a : Int)) h) :
    CallsH Tryz.prog 110 [.pointer (some ⟨s, 0, none⟩), sideV side, .int .u32 (a : Int), .int .i64 (l : Int)] h K := by
  refine F110.spec _ _ _ _ h K ?_
  unfold F110.w F110.J0
  refine sto_level H ha (ldI_of rfl ?_)
  unfold ch at hK
  by_cases e : lvl X.n X.N a = l
  · rw [if_pos e] at hK
    rw [e, show (((l : Int)) != (l : Int)) = false by simp, bcase_false]
    unfold sideV
    cases side with
    | true => exact dynK_go go69 (sto_high H ha (ldI_of rfl hK))
    | false => exact dynK_go go68 (sto_low H ha (ldI_of rfl hK))
  · rw [if_neg e] at hK
    rw [show (((lvl X.n X.N a : Nat) : Int) != (l : Int)) = true by simp; omega, bcase_true]
    exact hK
theorem half87 {op g a b c l : Nat} {side : Bool} {K : Value → Heap → Prop} (H : Sto h s L X) (ha : isN X.N a) (hb : isN X.N b) (hc : isN X.N c)
    (hrec : ∀ h', Only [] h h' → CallsH Tryz.prog 70 [walkV s op g, arg3 (ch X.n X.N l side a) (ch X.n X.N l side b) (ch X.n X.N l side c)] h' fun v h8 => ∃ n9 : Int, ∃ n10 : Int, v = (.tuple #[.int .u32 n9, .int .i64 n10]) ∧ K (.tuple #[.int .u32 n9, .int .i64 n10]) h8) :
    CallsH Tryz.prog 87 [walkV s op g, arg3 a b c, .int .i64 (l : Int), sideV side] h K := by
  refine F87.spec _ _ _ _ _ _ _ _ h K ?_
  unfold F87.w F87.J0
  refine newK_at fun h1 A1 O1 z1 => newK_at fun h2 A2 O2 z2 => ?_
  have A12 := A1.only O2 (by simp)
  have q0 : ∀ {h' : Heap} {v0 v1 v2 : Value} {q : Nat}, At h' q [v0, v1, v2] → rd h' (Addr.add ⟨q, 0, none⟩ 0) = some v0 ∧ rd h' (Addr.add ⟨q, 0, none⟩ 1) = some v1 ∧ rd h' (Addr.add ⟨q, 0, none⟩ 2) = some v2 := fun A => ⟨by rw [add_mk, At.rd A]; rfl, by rw [add_mk, At.rd A]; rfl, by rw [add_mk, At.rd A]; rfl⟩
  have w0 := q0 A2
  refine ldI_of w0.1 (ldI_of w0.2.1 (ldI_of w0.2.2 ?_))
  unfold F87.wk2 F87.Jk2
  have step : ∀ (bk : Int → Value → Addr → Addr → Int → Int → Int → Int → Heap → Prop) (k6 : Addr → Addr → Heap → Prop) (h' : Heap) (i y : Nat) (l' : List Value), i < 3 → (if i = 0 then a else if i = 1 then b else c) = y → isN X.N y → l'.length = 3 →
      At h' h.size [.pointer (some ⟨s, 0, none⟩), .int .u8 (op : Int), .func (.func g) #[] #[]] → At h' h1.size l' → Only [] h h' →
      (∀ h'', At h'' h.size [.pointer (some ⟨s, 0, none⟩), .int .u8 (op : Int), .func (.func g) #[] #[]] → At h'' h1.size (l'.set i (.int .u32 (ch X.n X.N l side y : Int))) → Only [] h h'' → bk (l : Int) (sideV side) ⟨h.size, 0, none⟩ ⟨h1.size, 0, none⟩ (a : Int) (b : Int) (c : Int) ((i + 1 : Nat) : Int) h'') →
      F87.JL2 bk k6 (l : Int) (sideV side) ⟨h.size, 0, none⟩ ⟨h1.size, 0, none⟩ (a : Int) (b : Int) (c : Int) (i : Int) h' K := by
    intro bk k6 h' i y l' hi hy hN hl' A B O hB
    unfold F87.JL2
    rw [decide_eq_true (by omega), bcase_true]
    refine ⟨by omega, by omega, ldI_of (n := (y : Int)) ?_ (ldP_of (q0 A).1 (child110 (H.only0 O) hN (ldI_of rfl ⟨by omega, by omega, ?_⟩)))⟩
    · rw [Int.toNat_natCast]
      subst hy
      have : i = 0 ∨ i = 1 ∨ i = 2 := by omega
      rcases this with e | e | e <;> subst e <;> rfl
    · have ew : IntKind.wrap .i64 ((i : Int) + 1) = ((i + 1 : Nat) : Int) := by rw [wrap_i64 (by omega) (by omega)]; omega
      rw [ew, add_mk, add_mk, Int.toNat_natCast]
      simp only [Nat.zero_add, Nat.mul_one, Nat.add_zero]
      exact stK_at B (by omega) rfl fun h'' B' O' z' => hB h'' (A.only O' (by simp; omega)) B' (O.trans O' (by intro x hx hlt; simp at hx; omega))
  refine ⟨4, ?_⟩
  have O12 := O1.trans O2 (by simp)
  unfold F87.wL2
  refine step _ _ h2 0 a _ (by omega) rfl ha rfl A12 A2 O12 fun h3 A3 B3 O3 => ?_
  unfold F87.wL2
  refine step _ _ h3 1 b _ (by omega) rfl hb rfl A3 B3 O3 fun h4 A4 B4 O4 => ?_
  unfold F87.wL2
  refine step _ _ h4 2 c _ (by omega) rfl hc rfl A4 B4 O4 fun h5 A5 B5 O5 => ?_
  unfold F87.wL2 F87.JL2
  rw [decide_eq_false (by omega), bcase_false]
  unfold F87.wk6 F87.Jk6
  have w5 := q0 A5
  have B5 : At h5 h1.size [.int .u32 (ch X.n X.N l side a : Int), .int .u32 (ch X.n X.N l side b : Int), .int .u32 (ch X.n X.N l side c : Int)] := B5
  have w6 := q0 B5
  refine ldP_of w5.1 (ldI_of w5.2.1 ?_)
  rw [w5.2.2, ldV_some]
  exact ldI_of w6.1 (ldI_of w6.2.1 (ldI_of w6.2.2 (hrec h5 O5)))
end
theorem ifmin {p q : Nat} : (if (p : Int) < (q : Int) then (p : Int) else (q : Int)) = ((min p q : Nat) : Int) := by
  by_cases h : (p : Int) < (q : Int)
  · rw [if_pos h, show min p q = p by omega]
  · rw [if_neg h, show min p q = q by omega]
theorem bdn_anti {n k k' : Nat} (h : k ≤ k') : bdn n k' ≤ bdn n k := Nat.pow_le_pow_right (by decide) (by omega)
set_option maxRecDepth 100000 in
theorem does70 {s op g n room : Nat} {f gg : Nat → Nat} {off : Bool} (hop : op < 2 ^ 8) (EO : EndsOk g op) (hx : xget X g = some .go) :
    ∀ (d : Nat) {k : Nat} {h : Heap} {L : List Nat} {N : List (Option Nd)} {a b c : Nat} {K : Value → Heap → Prop}, n - k ≤ d → k ≤ n → Sto h s L (XL n room f gg N off) → isN N a → isN N b → isN N c → k ≤ lvl n N a → k ≤ lvl n N b → k ≤ lvl n N c →
    clN (lst n) N + bdn n k + 2 ≤ room →
    (∀ h' L' N' r, Ex N N' → OpR n f N' op a b c r → clN (lst n) N' + 1 ≤ clN (lst n) N + bdn n k → Sto h' s L' (XL n room f gg N' off) → Only L h h' → Fresh L L' h → K (.tuple #[.int .u32 (r : Int), .int .i64 0]) h') →
    CallsH Tryz.prog 70 [walkV s op g, arg3 a b c] h K := by
  intro d
  induction d using Nat.strongRecOn with
  | _ d ih =>
    intro k h L N a b c K hd hk H ha hb hc ka kb kc hroom hK
    have ok := H.ok
    dsimp only [XL] at ok
    have hn8 := ok.2.2.1
    have nlt : ∀ {y}, isN N y → y < 2 ^ 16 := fun hy => by have := H.isN_lt hy; omega
    have bp := bdn_pos n k
    have zk : isN N 0 := .inl (by omega)
    refine F70.spec _ _ _ _ _ _ h K ?_
    unfold F70.w F70.J0
    refine newK_at fun h1 A1 O1 z1 => newK_at fun h2 A2 O2 z2 => ?_
    have A12 := A1.only O2 (by simp)
    have q0 : ∀ {h' : Heap} {v0 v1 v2 : Value} {q : Nat}, At h' q [v0, v1, v2] → rd h' (Addr.add ⟨q, 0, none⟩ 0) = some v0 ∧ rd h' (Addr.add ⟨q, 0, none⟩ 1) = some v1 ∧ rd h' (Addr.add ⟨q, 0, none⟩ 2) = some v2 := fun A => ⟨by rw [add_mk, At.rd A]; rfl, by rw [add_mk, At.rd A]; rfl, by rw [add_mk, At.rd A]; rfl⟩
    have qi : ∀ {h' : Heap} {v0 v1 v2 : Value} {q : Nat}, At h' q [v0, v1, v2] → rd h' (Addr.add ⟨q, 0, none⟩ (Int.toNat (0 : Int) * 1)) = some v0 ∧ rd h' (Addr.add ⟨q, 0, none⟩ (Int.toNat (1 : Int) * 1)) = some v1 ∧ rd h' (Addr.add ⟨q, 0, none⟩ (Int.toNat (2 : Int) * 1)) = some v2 := fun A => ⟨by rw [add_mk, At.rd A]; rfl, by rw [add_mk, At.rd A]; rfl, by rw [add_mk, At.rd A]; rfl⟩
    have w1 := q0 A12
    have w2 := q0 A2
    have O12 := O1.trans O2 (by simp)
    have same : ∀ {h' : Heap} (_ : Only [] h h') (r : Nat), OpR n f N op a b c r → K (.tuple #[.int .u32 (r : Int), .int .i64 0]) h' := fun O r R =>
      hK _ L N r (Ex.refl _) R (by omega) (H.only0 O) (O.mono (by simp)) (Fresh.refl _ _)
    rw [w1.2.2, ldV_some]
    refine ldI_of w2.1 (ldI_of w2.2.1 (ldI_of w2.2.2 (dynK_go hx ?_)))
    refine EO (fun h3 r O3 hR => ⟨_, _, rfl, ?_⟩) fun h3 r O3 h2 => ⟨_, _, rfl, ?_⟩
    · rw [bcase_true]
      exact same (O12.trans O3 (by simp)) r (hR n f N ok.1 ha hb hc)
    rw [bcase_false]
    have A3 := A12.only O3 (by simp)
    have B3 := A2.only O3 (by simp)
    have O03 := O12.trans O3 (by simp)
    have w3 := q0 A3
    have i3 := qi B3
    refine ldP_of w3.1 (ldI_of w3.2.1 ⟨by omega, by omega, ldI_of i3.1 ⟨by omega, by omega, ldI_of i3.2.1 ⟨by omega, by omega, ldI_of i3.2.2 ?_⟩⟩⟩)
    refine sto_recall (mask := 0) (H.only0 O03) hop (by decide) (nlt ha) (nlt hb) (nlt hc) (fun h4 S4 O4 => ⟨_, _, rfl, ?_⟩) fun h4 v hv S4 O4 => ⟨_, _, rfl, ?_⟩
    rotate_left
    · obtain ⟨r, rfl, R⟩ := QL.get hv (nlt ha) (nlt hb) (nlt hc)
      have hr := H.isN_lt R.is
      rw [wrap32 (by omega), bcase_true]
      exact hK h4 L N r (Ex.refl _) R (by omega) S4 ((O03.mono (by simp)).trans O4 fun b hb _ => hb) (Fresh.refl _ _)
    rw [bcase_false]
    have hL1 : ∀ y ∈ L, y < h.size := H.lt
    have z03 := O03.size
    have bL : h.size ∉ L := fun hm => Nat.lt_irrefl _ (hL1 _ hm)
    have bL1 : h1.size ∉ L := fun hm => by have := hL1 _ hm; have := O1.size; omega
    have A4 := A3.only O4 bL
    have B4 := B3.only O4 bL1
    have w4 := q0 A4
    have x4 := q0 B4
    refine ldP_of w4.1 (sto_vars S4 (ldI_of rfl (ldI_of x4.1 (ldI_of x4.2.1 (ldI_of x4.2.2 ?_)))))
    unfold F70.wk9 F70.Jk9
    have lstep : ∀ (bk : Addr → Addr → Int → Int → Int → Int → Int → Heap → Prop) (k13 : Addr → Addr → Int → Heap → Prop) (i y m : Nat), i < 3 → (if i = 0 then a else if i = 1 then b else c) = y → isN N y →
        bk ⟨h.size, 0, none⟩ ⟨h1.size, 0, none⟩ ((min (lvl n N y) m : Nat) : Int) (a : Int) (b : Int) (c : Int) ((i + 1 : Nat) : Int) h4 →
        F70.JL9 bk k13 ⟨h.size, 0, none⟩ ⟨h1.size, 0, none⟩ (m : Int) (a : Int) (b : Int) (c : Int) (i : Int) h4 K := by
      intro bk k13 i y m hi hy hN hB
      unfold F70.JL9
      rw [decide_eq_true (by omega), bcase_true]
      refine ⟨by omega, by omega, ldI_of (n := (y : Int)) ?_ (ldP_of w4.1 (sto_level S4 hN (ldI_of rfl ?_)))⟩
      · rw [Int.toNat_natCast]
        subst hy
        have : i = 0 ∨ i = 1 ∨ i = 2 := by omega
        rcases this with e | e | e <;> subst e <;> rfl
      · have ew : IntKind.wrap .i64 ((i : Int) + 1) = ((i + 1 : Nat) : Int) := by rw [wrap_i64 (by omega) (by omega)]; omega
        show bk ⟨h.size, 0, none⟩ ⟨h1.size, 0, none⟩ (if ((lvl n N y : Nat) : Int) < (m : Int) then ((lvl n N y : Nat) : Int) else (m : Int)) (a : Int) (b : Int) (c : Int) _ h4
        rw [ifmin, ew]
        exact hB
    refine ⟨4, ?_⟩
    unfold F70.wL9
    refine lstep _ _ 0 a n (by omega) rfl ha ?_
    unfold F70.wL9
    refine lstep _ _ 1 b _ (by omega) rfl hb ?_
    unfold F70.wL9
    refine lstep _ _ 2 c _ (by omega) rfl hc ?_
    unfold F70.wL9 F70.JL9
    rw [decide_eq_false (by omega), bcase_false]
    have la := lvl_le ok.1 ha
    have lb := lvl_le ok.1 hb
    have lc := lvl_le ok.1 hc
    have lt2 : ∀ {y}, isN N y → 2 ≤ y → lvl n N y < n := fun hy h2 => (ok.1.at hy h2).1
    obtain ⟨l, hl⟩ : ∃ l, l = min (lvl n N c) (min (lvl n N b) (min (lvl n N a) n)) := ⟨_, rfl⟩
    rw [← hl]
    have hln : l < n := by
      rcases h2 with h2 | h2 | h2
      · have := lt2 ha h2; omega
      · have := lt2 hb h2; omega
      · have := lt2 hc h2; omega
    have hkl : k ≤ l := by omega
    have la' : l ≤ lvl n N a := by omega
    have lb' : l ≤ lvl n N b := by omega
    have lc' : l ≤ lvl n N c := by omega
    unfold F70.wk13 F70.Jk13
    refine ldP_of w4.1 (ldI_of w4.2.1 ?_)
    rw [w4.2.2, ldV_some]
    refine ldI_of x4.1 (ldI_of x4.2.1 (ldI_of x4.2.2 ?_))
    have bl1 : bdn n (l + 1) ≤ bdn n k := bdn_anti (by omega)
    have bb : bdn n (l + 1) + bdn n (l + 1) ≤ bdn n k + 1 := by
      by_cases hk1 : l + 1 < n
      · have := bdn_two hk1
        have := bdn_anti (n := n) hkl
        omega
      · have : bdn n (l + 1) = 1 := bdn_one (by omega)
        omega
    have ca := ch_is (side := false) ok.1 ha la' hln
    have cb := ch_is (side := false) ok.1 hb lb' hln
    have cc := ch_is (side := false) ok.1 hc lc' hln
    refine half87 (side := false) S4 ha hb hc fun h5 O5 => ?_
    dsimp only [XL]
    refine ih (n - (l + 1)) (by omega) (k := l + 1) (Nat.le_refl _) (by omega) (S4.only0 O5) ca.1 cb.1 cc.1 ca.2 cb.2 cc.2 (by omega) fun h6 L6 N6 lo E6 R6 c6 S6 O6 F6 => ⟨_, _, rfl, ⟨_, _, rfl, ?_⟩⟩
    rw [show ((0 : Int) != 0) = false from rfl, bcase_false]
    have ok6 := S6.ok
    dsimp only [XL] at ok6
    have O04 : Only L h h4 := (O03.mono (by simp)).trans O4 fun b hb _ => hb
    have O06 : Only L h h6 := (O04.trans O5 (by simp)).trans O6 fun b hb _ => hb
    have nL6 : ∀ {y}, h.size ≤ y → y < h5.size → y ∉ L6 := fun h1 h2 h3 => by
      rcases F6 _ h3 with h | h
      · have := hL1 _ h; omega
      · omega
    have z15 : h1.size < h5.size := Nat.lt_of_lt_of_le B4.lt O5.size
    have z05 : h.size < h5.size := Nat.lt_of_lt_of_le A4.lt O5.size
    have A6 := (A4.only O5 (by simp)).only O6 bL
    have B6 := (B4.only O5 (by simp)).only O6 bL1
    have w6 := q0 A6
    have x6 := q0 B6
    refine ldP_of w6.1 (ldI_of w6.2.1 ?_)
    rw [w6.2.2, ldV_some]
    refine ldI_of x6.1 (ldI_of x6.2.1 (ldI_of x6.2.2 ?_))
    have ha6 := E6.isN ha
    have hb6 := E6.isN hb
    have hc6 := E6.isN hc
    have la6 : l ≤ lvl n N6 a := by rw [E6.lvl ha]; exact la'
    have lb6 : l ≤ lvl n N6 b := by rw [E6.lvl hb]; exact lb'
    have lc6 : l ≤ lvl n N6 c := by rw [E6.lvl hc]; exact lc'
    have da := ch_is (side := true) ok6.1 ha6 la6 hln
    have db := ch_is (side := true) ok6.1 hb6 lb6 hln
    have dc := ch_is (side := true) ok6.1 hc6 lc6 hln
    refine half87 (side := true) S6 ha6 hb6 hc6 fun h7 O7 => ?_
    dsimp only [XL]
    refine ih (n - (l + 1)) (by omega) (k := l + 1) (Nat.le_refl _) (by omega) (S6.only0 O7) da.1 db.1 dc.1 da.2 db.2 dc.2 (by omega) fun h8 L8 N8 hi E8 R8 c8 S8 O8 F8 => ⟨_, _, rfl, ⟨_, _, rfl, ?_⟩⟩
    rw [show ((0 : Int) != 0) = false from rfl, bcase_false]
    have ok8 := S8.ok
    dsimp only [XL] at ok8
    have F06 : Fresh L L6 h := fun b hb => by
      rcases F6 b hb with h | h
      · exact .inl h
      · exact .inr (by omega)
    have O08 : Only L h h8 := (O06.trans O7 (by simp)).app O8 F06
    have z57 : h5.size ≤ h7.size := Nat.le_trans O6.size O7.size
    have nb6 : h.size ∉ L6 := nL6 (Nat.le_refl _) z05
    have nb6' : h1.size ∉ L6 := nL6 O1.size z15
    have A8 := (A6.only O7 (by simp)).only O8 nb6
    have B8 := (B6.only O7 (by simp)).only O8 nb6'
    have nL8 : ∀ {y}, h.size ≤ y → y < h5.size → y ∉ L8 := fun h1 h2 h3 => by
      rcases F8 _ h3 with h | h
      · exact nL6 h1 h2 h
      · omega
    have nb8 : h.size ∉ L8 := nL8 (Nat.le_refl _) z05
    have nb8' : h1.size ∉ L8 := nL8 O1.size z15
    have F08 : Fresh L L8 h := F06.trans F8 (by omega)
    have w8 := q0 A8
    have llo : l < lvl n N8 lo := by
      rw [E8.lvl R6.is]
      have := R6.lv (l + 1) (by rw [E6.lvl ca.1]; exact ca.2) (by rw [E6.lvl cb.1]; exact cb.2) (by rw [E6.lvl cc.1]; exact cc.2)
      omega
    have lhi : l < lvl n N8 hi := by
      have := R8.lv (l + 1) (by rw [E8.lvl da.1]; exact da.2) (by rw [E8.lvl db.1]; exact db.2) (by rw [E8.lvl dc.1]; exact dc.2)
      omega
    have hlo8 := E8.isN R6.is
    refine ldP_of w8.1 (sto_mk S8 (l := l) hln hlo8 R8.is llo lhi fun h9 L9 N9 r e R S9 O9 F9 => ⟨_, _, rfl, ?_⟩)
    have ok9 := S9.ok
    dsimp only [XL] at ok9 R
    have he : e = 0 := by
      rcases R with ⟨-, -, e, -⟩ | ⟨-, _, -, -, e, -⟩ | ⟨h1, h2, h3, -⟩ | ⟨-, -, -, e, -⟩
      · exact e
      · exact e
      · exfalso
        have c1 := cnt_bound ok8.1
        by_cases hk1 : l + 1 < n
        · have := bdn_two hk1
          have := bdn_anti (n := n) hkl
          omega
        · have : bdn n (l + 1) = 1 := bdn_one (by omega)
          omega
      · exact e
    subst he
    obtain ⟨m1, m2, m3, m4⟩ := mk_node (f := f) ok8.1 ok9.1 hlo8 R8.is llo R
    have hcl : clN (lst n) N9 ≤ clN (lst n) N8 + if lst n l then 1 else 0 := by
      rcases R with ⟨-, -, -, e⟩ | ⟨-, _, -, -, -, e⟩ | ⟨-, -, -, -, e, -⟩ | ⟨-, -, -, -, q, -, P⟩
      · rw [e]; omega
      · rw [e]; omega
      · omega
      · rw [P.cl (lst n)]; exact Nat.le_refl _
    have E08 : Ex N N8 := E6.trans E8
    have E09 : Ex N N9 := E08.trans m1
    have RR : OpR n f N9 op a b c r := by
      refine ⟨m2, fun k' k1 k2 k3 => ?_, fun x => ?_⟩
      · rw [E09.lvl ha] at k1
        rw [E09.lvl hb] at k2
        rw [E09.lvl hc] at k3
        omega
      · rw [m4 x, E09.sm ok.1 ha, E09.sm ok.1 hb, E09.sm ok.1 hc, ch_sm ok.1 ha hln, ch_sm (a := b) ok.1 hb hln, ch_sm (a := c) ok.1 hc hln]
        by_cases hb' : x.testBit (f l) = true
        · rw [if_pos hb', if_pos hb', if_pos hb', if_pos hb', R8.sm, E8.sm ok6.1 da.1, E8.sm ok6.1 db.1, E8.sm ok6.1 dc.1, E6.ch ha, E6.ch hb, E6.ch hc]
          rw [E6.sm ok.1 (ch_is (side := true) ok.1 ha la' hln).1, E6.sm ok.1 (ch_is (side := true) ok.1 hb lb' hln).1, E6.sm ok.1 (ch_is (side := true) ok.1 hc lc' hln).1]
        · rw [if_neg hb', if_neg hb', if_neg hb', if_neg hb', E8.sm ok6.1 R6.is, R6.sm, E6.sm ok.1 ca.1, E6.sm ok.1 cb.1, E6.sm ok.1 cc.1]
    have S9' : Sto h9 s L9 (XL n room f gg N9 off) := sto_XL S9 ok8.1 m1
    have O09 : Only L h h9 := O08.app O9 F08
    have F09 : Fresh L L9 h := F08.trans F9 (by have := O08.size; omega)
    have hcc : clN (lst n) N9 + 1 ≤ clN (lst n) N + bdn n k := by
      by_cases hk1 : l + 1 < n
      · have : lst n l = true := by unfold lst; simp; omega
        rw [this] at hcl
        have := bdn_two hk1
        have := bdn_anti (n := n) hkl
        simp at hcl
        omega
      · have : lst n l = false := by unfold lst; simp; omega
        rw [this] at hcl
        have : bdn n (l + 1) = 1 := bdn_one (by omega)
        simp at hcl
        omega
    rw [show ((((0 : Nat) : Int)) == (0 : Int)) = true from rfl, bcase_true]
    have z59 : h5.size ≤ h8.size := Nat.le_trans z57 O8.size
    have A9 := A8.only O9 nb8
    have B9 := B8.only O9 nb8'
    have w9 := q0 A9
    have i9 := qi B9
    have lt9 : ∀ {y}, isN N9 y → y < 2 ^ 16 := fun hy => by have := S9'.isN_lt hy; omega
    have ha9 := E09.isN ha
    have hb9 := E09.isN hb
    have hc9 := E09.isN hc
    refine ldP_of w9.1 (ldI_of w9.2.1 ⟨by omega, by omega, ldI_of i9.1 ⟨by omega, by omega, ldI_of i9.2.1 ⟨by omega, by omega, ldI_of i9.2.2 ?_⟩⟩⟩)
    refine sto_note (mask := 0) S9' hop (by decide) (nlt ha) (nlt hb) (nlt hc) (by have := lt9 m2; omega) ⟨op, a, b, c, r, rfl, rfl, hop, ha9, hb9, hc9, nlt ha, nlt hb, nlt hc, RR⟩ fun h10 S10 O10 => ⟨rfl, ?_⟩
    unfold F70.wk22 F70.Jk22
    exact hK h10 L9 N9 r E09 RR hcc S10 (O09.app O10 F09) F09
end Go.Proofs.YtnbnlhpleomaoaaGreat.Ev
/- NOT and OR (package logic). Conditions: the store stands (Sto), there is room. -/
namespace Go.Proofs.YtnbnlhpleomaoaaGreat.Ev
open Go
set_option maxRecDepth 100000 in
theorem run47 {h : Heap} {s op g n room a b c : Nat} {f gg : Nat → Nat} {off : Bool} {L : List Nat} {N : List (Option Nd)} {K : Value → Heap → Prop} (hop : op < 2 ^ 8) (EO : EndsOk g op) (hx : xget X g = some .go)
    (H : Sto h s L (XL n room f gg N off)) (ha : isN N a) (hb : isN N b) (hc : isN N c) (hroom : clN (lst n) N + bdn n 0 + 2 ≤ room)
    (hK : ∀ h' L' N' r, Ex N N' → OpR n f N' op a b c r → clN (lst n) N' + 1 ≤ clN (lst n) N + bdn n 0 → Sto h' s L' (XL n room f gg N' off) → Only L h h' → Fresh L L' h → K (.tuple #[.int .u32 (r : Int), .int .i64 0]) h') :
    CallsH Tryz.prog 47 [.pointer (some ⟨s, 0, none⟩), .int .u8 (op : Int), .func (.func g) #[] #[], arg3 a b c] h K := by
  refine F47.spec _ _ _ _ _ _ h K ?_
  unfold F47.w F47.J0
  refine newK_at fun h1 A1 O1 z1 => ?_
  have q0 : ∀ {h' : Heap} {v0 v1 v2 : Value} {q : Nat}, At h' q [v0, v1, v2] → rd h' (Addr.add ⟨q, 0, none⟩ 0) = some v0 ∧ rd h' (Addr.add ⟨q, 0, none⟩ 1) = some v1 ∧ rd h' (Addr.add ⟨q, 0, none⟩ 2) = some v2 := fun A => ⟨by rw [add_mk, At.rd A]; rfl, by rw [add_mk, At.rd A]; rfl, by rw [add_mk, At.rd A]; rfl⟩
  have w1 := q0 A1
  have H1 := H.only0 O1
  refine ldI_of w1.1 (ldI_of w1.2.1 (ldI_of w1.2.2 ?_))
  unfold F47.wk2 F47.Jk2
  have step : ∀ (bk : Addr → Int → Nat → Addr → Int → Int → Int → Int → Heap → Prop) (k7 : Addr → Int → Nat → Addr → Heap → Prop) (i y : Nat), i < 3 → (if i = 0 then a else if i = 1 then b else c) = y → isN N y →
      bk ⟨s, 0, none⟩ (op : Int) g ⟨h.size, 0, none⟩ (a : Int) (b : Int) (c : Int) ((i + 1 : Nat) : Int) h1 →
      F47.JL2 bk k7 ⟨s, 0, none⟩ (op : Int) g ⟨h.size, 0, none⟩ (a : Int) (b : Int) (c : Int) (i : Int) h1 K := by
    intro bk k7 i y hi hy hN hB
    unfold F47.JL2
    rw [decide_eq_true (by omega), bcase_true]
    refine ⟨by omega, by omega, ldI_of (n := (y : Int)) ?_ (sto_is1 H1 hN (ldB_of rfl ?_))⟩
    · rw [Int.toNat_natCast]
      subst hy
      have : i = 0 ∨ i = 1 ∨ i = 2 := by omega
      rcases this with e | e | e <;> subst e <;> rfl
    · have ew : IntKind.wrap .i64 ((i : Int) + 1) = ((i + 1 : Nat) : Int) := by rw [wrap_i64 (by omega) (by omega)]; omega
      rw [Bool.not_true, bcase_false, ew]
      exact hB
  refine ⟨4, ?_⟩
  unfold F47.wL2
  refine step _ _ 0 a (by omega) rfl ha ?_
  unfold F47.wL2
  refine step _ _ 1 b (by omega) rfl hb ?_
  unfold F47.wL2
  refine step _ _ 2 c (by omega) rfl hc ?_
  unfold F47.wL2 F47.JL2
  rw [decide_eq_false (by omega), bcase_false]
  unfold F47.wk7 F47.Jk7
  refine ldI_of w1.1 (ldI_of w1.2.1 (ldI_of w1.2.2 ?_))
  refine does70 hop EO hx n (k := 0) (by omega) (by omega) H1 ha hb hc (by omega) (by omega) (by omega) hroom fun h' L' N' r E R c S O F => ⟨_, _, rfl, hK h' L' N' r E R c S ((O1.mono (by simp)).trans O fun b hb _ => hb) fun b hb => ?_⟩
  rcases F b hb with h | h
  · exact .inl h
  · exact .inr (by have := O1.size; omega)
section
variable {h : Heap} {s n room a b : Nat} {f gg : Nat → Nat} {off : Bool} {L : List Nat} {N : List (Option Nd)} {K : Value → Heap → Prop}
theorem not24 (H : Sto h s L (XL n room f gg N off)) (ha : isN N a) (hroom : clN (lst n) N + bdn n 0 + 2 ≤ room)
    (hK : ∀ h' L' N' r, Ex N N' → isN N' r → (∀ x, sm n f N' r x = !sm n f N' a x) → clN (lst n) N' + 1 ≤ clN (lst n) N + bdn n 0 → Sto h' s L' (XL n room f gg N' off) → Only L h h' → Fresh L L' h → K (.tuple #[.int .u32 (r : Int), .int .i64 0]) h') :
    CallsH Tryz.prog 24 [.pointer (some ⟨s, 0, none⟩), .int .u32 (a : Int)] h K := by
  refine F24.spec _ _ h K ?_
  unfold F24.w F24.J0
  refine run47 (op := 4) (g := 48) (a := 1) (b := a) (c := 0) (by decide) xor48 go48 H (.inl (by omega)) ha (.inl (by omega)) hroom fun h' L' N' r E R c S O F => ⟨_, _, rfl, hK h' L' N' r E R.is (fun x => ?_) c S O F⟩
  rw [R.sm, sm_const (a := 1) (by omega)]
  unfold opB
  cases sm n f N' a x <;> rfl
end
end Go.Proofs.YtnbnlhpleomaoaaGreat.Ev
/- PRINTED BY PROGRAM: what each of these functions does, computed over heaps by the evaluator, and that its calls do so. Conditions: none. -/
namespace Go.Proofs.YtnbnlhpleomaoaaGreat.Ev
open Go
-- spinney/spinneylaw30.WeighSums
namespace F8
def T : Hint := ⟨[(11, [3, 5, 7, 8, 9, 10, 11, 12, 13]), (15, [5, 7, 8, 9, 10, 11, 12])], []⟩
noncomputable def body : Code := (Tryz.f8.body).getD .skip
noncomputable def en (S : Stop) (p : List Nat) (κ : XK) : Fr → Heap → Prop := E Tryz.prog X T S (sub body p) κ
noncomputable def ln (S : Stop) (p : List Nat) (κ : XK) (n : Nat) : Fr → Heap → Prop := loopN S (E Tryz.prog X T S (sub body p)) (cutQ T (sub body p)) κ n
def fn (K : KK) : XK := fin Tryz.prog Tryz.f8.results.toList K
noncomputable def c0 (S : Stop) (K : KK) : XK := seqN S (cutQ T (sub body [1, 1, 1, 1, 1, 1, 1, 1, 1])) (en S [1, 1, 1, 1, 1, 1, 1, 1, 1] (fn K)) (fn K)
noncomputable def c1 (S : Stop) (K : KK) : XK := blockN 0 (c0 S K)
noncomputable def c2 (S : Stop) (n11 : Nat) (K : KK) : XK := backN S (cutQ T (sub body [1, 1, 1, 1, 1, 1, 1, 1, 0, 1, 0, 0])) (ln S [1, 1, 1, 1, 1, 1, 1, 1, 0, 1, 0, 0] (c1 S K) n11) (c1 S K)
def f11 (x3 : Addr) (x5 : Option Addr) (x7 : Int) (x8 : Bool) (x9 x10 : Int) (x11p : Option Addr) (x11l x11c : Nat) (x12 x13 : Int) : Fr := [(3, (.pointer (some x3))), (5, (.pointer x5)), (7, (.int .u32 x7)), (8, (.bool x8)), (9, (.int .u32 x9)), (10, (.int .i64 x10)), (11, (.slice x11p x11l x11c)), (12, (.int .i64 x12)), (13, (.int .i64 x13))]
def f15 (x5 : Option Addr) (x7 : Int) (x8 : Bool) (x9 x10 : Int) (x11p : Option Addr) (x11l x11c : Nat) (x12 : Int) : Fr := [(5, (.pointer x5)), (7, (.int .u32 x7)), (8, (.bool x8)), (9, (.int .u32 x9)), (10, (.int .i64 x10)), (11, (.slice x11p x11l x11c)), (12, (.int .i64 x12))]
def J0 (k11 : Addr → (Option Addr) → Int → Bool → Int → Int → (Option Addr) → Nat → Nat → Int → Int → Heap → Prop) (x0_0 x0_1 x0_2 x0_3 x1_0 x1_1 x1_2 x1_3 x1_4 x1_5 x1_6 x1_7 : Int) (h : Heap) (K : KK) : Prop :=
  newK h (.cells #[(.int .u64 x0_0), (.int .u64 x0_1), (.int .u64 x0_2), (.int .u64 x0_3)] 24) (fun b1 h2 => newK h2 (.cells #[(.int .i8 x1_0), (.int .i8 x1_1), (.int .i8 x1_2), (.int .i8 x1_3), (.int .i8 x1_4), (.int .i8 x1_5), (.int .i8 x1_6), (.int .i8 x1_7)] 56) (fun b3 h4 => CallsH Tryz.prog 10 [] h4 (fun v5 h6 => ldB (some v5) (fun b7 => bcase (!b7) (K (.bool false) h6) (CallsH Tryz.prog 11 [(.int .i64 (8 : Int)), (.int .i64 (400 : Int))] h6 (fun v8 h9 => (∃ p10 : Option Addr, ∃ n11 : Int, v8 = (.tuple #[(.pointer p10), (.int .i64 n11)]) ∧ bcase (n11 != (0 : Int)) (K (.bool false) h9) (ldI .u64 (rd h9 (Addr.add (Addr.mk b1 0 none) 0)) (fun n12 => ldI .u64 (rd h9 (Addr.add (Addr.mk b1 0 none) 1)) (fun n13 => ldI .u64 (rd h9 (Addr.add (Addr.mk b1 0 none) 2)) (fun n14 => ldI .u64 (rd h9 (Addr.add (Addr.mk b1 0 none) 3)) (fun n15 => CallsH Tryz.prog 13 [(.pointer p10), (.agg #[(.int .u64 n12), (.int .u64 n13), (.int .u64 n14), (.int .u64 n15)])] h9 (fun v16 h17 => (∃ n18 : Int, ∃ b19 : Bool, v16 = (.tuple #[(.int .u32 n18), (.bool b19)]) ∧ CallsH Tryz.prog 24 [(.pointer p10), (.int .u32 n18)] h17 (fun v20 h21 => (∃ n22 : Int, ∃ n23 : Int, v20 = (.tuple #[(.int .u32 n22), (.int .i64 n23)]) ∧ k11 (Addr.mk b3 0 none) p10 n18 b19 n22 n23 none 0 0 (0 : Int) (0 : Int) h21))))))))))))))))
theorem E0 (S : Stop) (x0_0 x0_1 x0_2 x0_3 x1_0 x1_1 x1_2 x1_3 x1_4 x1_5 x1_6 x1_7 : Int) (h : Heap) (K : KK) : (E Tryz.prog X T S body (fin Tryz.prog Tryz.f8.results.toList K) (args0 0 [(.agg #[(.int .u64 x0_0), (.int .u64 x0_1), (.int .u64 x0_2), (.int .u64 x0_3)]), (.agg #[(.int .i8 x1_0), (.int .i8 x1_1), (.int .i8 x1_2), (.int .i8 x1_3), (.int .i8 x1_4), (.int .i8 x1_5), (.int .i8 x1_6), (.int .i8 x1_7)])]) h) = J0 (fun x3 x5 x7 x8 x9 x10 x11p x11l x11c x12 x13 h => S (en S [1, 1, 1, 1, 1, 1, 1, 1, 0, 1] (c0 S K)) (f11 x3 x5 x7 x8 x9 x10 x11p x11l x11c x12 x13) h) x0_0 x0_1 x0_2 x0_3 x1_0 x1_1 x1_2 x1_3 x1_4 x1_5 x1_6 x1_7 h K := by kernel_rfl
def Jk11 (lp11 : Addr → (Option Addr) → Int → Bool → Int → Int → (Option Addr) → Nat → Nat → Int → Int → Heap → Prop) (x3 : Addr) (x5 : Option Addr) (x7 : Int) (x8 : Bool) (x9 x10 : Int) (x11p : Option Addr) (x11l x11c : Nat) (x12 x13 : Int) (h : Heap) (_K : KK) : Prop :=
  lp11 x3 x5 x7 x8 x9 x10 x11p x11l x11c x12 x13 h
theorem Ek11 (S : Stop) (x3 : Addr) (x5 : Option Addr) (x7 : Int) (x8 : Bool) (x9 x10 : Int) (x11p : Option Addr) (x11l x11c : Nat) (x12 x13 : Int) (h : Heap) (K : KK) : (en S [1, 1, 1, 1, 1, 1, 1, 1, 0, 1] (c0 S K) (f11 x3 x5 x7 x8 x9 x10 x11p x11l x11c x12 x13) h) = Jk11 (fun x3 x5 x7 x8 x9 x10 x11p x11l x11c x12 x13 h => ∃ n, S (ln S [1, 1, 1, 1, 1, 1, 1, 1, 0, 1, 0, 0] (c1 S K) n) (f11 x3 x5 x7 x8 x9 x10 x11p x11l x11c x12 x13) h) x3 x5 x7 x8 x9 x10 x11p x11l x11c x12 x13 h K := by kernel_rfl
def JL11 (bk11 : Addr → (Option Addr) → Int → Bool → Int → Int → (Option Addr) → Nat → Nat → Int → Int → Heap → Prop) (k15 : (Option Addr) → Int → Bool → Int → Int → (Option Addr) → Nat → Nat → Int → Heap → Prop) (x3 : Addr) (x5 : Option Addr) (x7 : Int) (x8 : Bool) (x9 x10 : Int) (x11p : Option Addr) (x11l x11c : Nat) (x12 x13 : Int) (h : Heap) (_K : KK) : Prop :=
  bcase (decide (x13 < (8 : Int))) ((0 ≤ x13 ∧ x13 < (Nat.cast 8 : Int) ∧ ldI .i8 (rd h (Addr.add x3 (Int.toNat x13 * 1))) (fun n1 => newK h (.cells #[(.int .i64 (IntKind.wrap .i64 n1))] 3) (fun b2 h3 => appK h3 3 1 8 #[(.int .i64 (0 : Int))] x11p x11l x11c (some (Addr.mk b2 0 none)) 1 (fun p4 l5 c6 h7 => (0 ≤ x13 ∧ x13 < (Nat.cast 8 : Int) ∧ ldI .i8 (rd h7 (Addr.add x3 (Int.toNat x13 * 1))) (fun n8 => bk11 x3 x5 x7 x8 x9 x10 p4 l5 c6 (IntKind.wrap .i64 (x12 + (IntKind.wrap .i64 ((128 : Int) * (IntKind.wrap .i64 n8))))) (IntKind.wrap .i64 (x13 + (1 : Int))) h7))))))) (k15 x5 x7 x8 x9 x10 x11p x11l x11c x12 h)
theorem EL11 (S : Stop) (n11 : Nat) (x3 : Addr) (x5 : Option Addr) (x7 : Int) (x8 : Bool) (x9 x10 : Int) (x11p : Option Addr) (x11l x11c : Nat) (x12 x13 : Int) (h : Heap) (K : KK) : (en S [1, 1, 1, 1, 1, 1, 1, 1, 0, 1, 0, 0] (c2 S n11 K) (f11 x3 x5 x7 x8 x9 x10 x11p x11l x11c x12 x13) h) = JL11 (fun x3 x5 x7 x8 x9 x10 x11p x11l x11c x12 x13 h => S (ln S [1, 1, 1, 1, 1, 1, 1, 1, 0, 1, 0, 0] (c1 S K) n11) (f11 x3 x5 x7 x8 x9 x10 x11p x11l x11c x12 x13) h) (fun x5 x7 x8 x9 x10 x11p x11l x11c x12 h => S (en S [1, 1, 1, 1, 1, 1, 1, 1, 1] (fn K)) (f15 x5 x7 x8 x9 x10 x11p x11l x11c x12) h) x3 x5 x7 x8 x9 x10 x11p x11l x11c x12 x13 h K := by kernel_rfl
def Jk15 (x5 : Option Addr) (x7 : Int) (x8 : Bool) (x9 x10 : Int) (x11p : Option Addr) (x11l x11c : Nat) (x12 : Int) (h : Heap) (K : KK) : Prop :=
  CallsH Tryz.prog 18 [(.pointer x5), (.int .u32 x7), (.slice x11p x11l x11c)] h (fun v1 h2 => (∃ n3 : Int, ∃ n4 : Int, v1 = (.tuple #[(.int .i64 n3), (.int .i64 n4)]) ∧ CallsH Tryz.prog 18 [(.pointer x5), (.int .u32 x9), (.slice x11p x11l x11c)] h2 (fun v5 h6 => (∃ n7 : Int, ∃ n8 : Int, v5 = (.tuple #[(.int .i64 n7), (.int .i64 n8)]) ∧ CallsH Tryz.prog 18 [(.pointer x5), (.int .u32 (1 : Int)), (.slice x11p x11l x11c)] h6 (fun v9 h10 => (∃ n11 : Int, ∃ n12 : Int, v9 = (.tuple #[(.int .i64 n11), (.int .i64 n12)]) ∧ CallsH Tryz.prog 18 [(.pointer x5), (.int .u32 (0 : Int)), (.slice x11p x11l x11c)] h10 (fun v13 h14 => (∃ n15 : Int, ∃ n16 : Int, v13 = (.tuple #[(.int .i64 n15), (.int .i64 n16)]) ∧ bcase x8 (bcase (x10 == (0 : Int)) (bcase (n4 == (0 : Int)) (bcase (n8 == (0 : Int)) (bcase (n12 == (0 : Int)) (bcase (n16 == (0 : Int)) (bcase ((IntKind.wrap .i64 (n3 + n7)) == x12) (bcase (n11 == x12) (K (.bool (n15 == (0 : Int))) h14) (K (.bool false) h14)) (K (.bool false) h14)) (K (.bool false) h14)) (K (.bool false) h14)) (K (.bool false) h14)) (K (.bool false) h14)) (K (.bool false) h14)) (K (.bool false) h14)))))))))
theorem Ek15 (S : Stop) (x5 : Option Addr) (x7 : Int) (x8 : Bool) (x9 x10 : Int) (x11p : Option Addr) (x11l x11c : Nat) (x12 : Int) (h : Heap) (K : KK) : (en S [1, 1, 1, 1, 1, 1, 1, 1, 1] (fn K) (f15 x5 x7 x8 x9 x10 x11p x11l x11c x12) h) = Jk15 x5 x7 x8 x9 x10 x11p x11l x11c x12 h K := by kernel_rfl
def wk15 (x5 : Option Addr) (x7 : Int) (x8 : Bool) (x9 x10 : Int) (x11p : Option Addr) (x11l x11c : Nat) (x12 : Int) (h : Heap) (K : KK) : Prop :=
  Jk15 x5 x7 x8 x9 x10 x11p x11l x11c x12 h K
theorem ek15 (K : KK) (x5 : Option Addr) (x7 : Int) (x8 : Bool) (x9 x10 : Int) (x11p : Option Addr) (x11l x11c : Nat) (x12 : Int) (h : Heap) : (en S0 [1, 1, 1, 1, 1, 1, 1, 1, 1] (fn K) (f15 x5 x7 x8 x9 x10 x11p x11l x11c x12) h) = wk15 x5 x7 x8 x9 x10 x11p x11l x11c x12 h K := (Ek15 S0 x5 x7 x8 x9 x10 x11p x11l x11c x12 h K).trans (rfl)
def wL11 : Nat → Addr → (Option Addr) → Int → Bool → Int → Int → (Option Addr) → Nat → Nat → Int → Int → Heap → KK → Prop
  | 0, _, _, _, _, _, _, _, _, _, _, _, _, _ => False
  | n + 1, x3, x5, x7, x8, x9, x10, x11p, x11l, x11c, x12, x13, h, K => JL11 (fun x3 x5 x7 x8 x9 x10 x11p x11l x11c x12 x13 h => wL11 n x3 x5 x7 x8 x9 x10 x11p x11l x11c x12 x13 h K) (fun x5 x7 x8 x9 x10 x11p x11l x11c x12 h => wk15 x5 x7 x8 x9 x10 x11p x11l x11c x12 h K) x3 x5 x7 x8 x9 x10 x11p x11l x11c x12 x13 h K
theorem eL11 (K : KK) : ∀ (n : Nat) (x3 : Addr) (x5 : Option Addr) (x7 : Int) (x8 : Bool) (x9 x10 : Int) (x11p : Option Addr) (x11l x11c : Nat) (x12 x13 : Int) (h : Heap), (ln S0 [1, 1, 1, 1, 1, 1, 1, 1, 0, 1, 0, 0] (c1 S0 K) n (f11 x3 x5 x7 x8 x9 x10 x11p x11l x11c x12 x13) h) = wL11 n x3 x5 x7 x8 x9 x10 x11p x11l x11c x12 x13 h K
  | 0, _, _, _, _, _, _, _, _, _, _, _, _ => rfl
  | n + 1, x3, x5, x7, x8, x9, x10, x11p, x11l, x11c, x12, x13, h => (EL11 S0 n x3 x5 x7 x8 x9 x10 x11p x11l x11c x12 x13 h K).trans (cg2 (fun q0 q1 => JL11 q0 q1 x3 x5 x7 x8 x9 x10 x11p x11l x11c x12 x13 h K) (by funext x3 x5 x7 x8 x9 x10 x11p x11l x11c x12 x13 h; exact (fun x3 x5 x7 x8 x9 x10 x11p x11l x11c x12 x13 h => eL11 K n x3 x5 x7 x8 x9 x10 x11p x11l x11c x12 x13 h) x3 x5 x7 x8 x9 x10 x11p x11l x11c x12 x13 h) (by funext x5 x7 x8 x9 x10 x11p x11l x11c x12 h; exact ek15 K x5 x7 x8 x9 x10 x11p x11l x11c x12 h))
def wk11 (x3 : Addr) (x5 : Option Addr) (x7 : Int) (x8 : Bool) (x9 x10 : Int) (x11p : Option Addr) (x11l x11c : Nat) (x12 x13 : Int) (h : Heap) (K : KK) : Prop :=
  Jk11 (fun x3 x5 x7 x8 x9 x10 x11p x11l x11c x12 x13 h => ∃ m, wL11 m x3 x5 x7 x8 x9 x10 x11p x11l x11c x12 x13 h K) x3 x5 x7 x8 x9 x10 x11p x11l x11c x12 x13 h K
theorem ek11 (K : KK) (x3 : Addr) (x5 : Option Addr) (x7 : Int) (x8 : Bool) (x9 x10 : Int) (x11p : Option Addr) (x11l x11c : Nat) (x12 x13 : Int) (h : Heap) : (en S0 [1, 1, 1, 1, 1, 1, 1, 1, 0, 1] (c0 S0 K) (f11 x3 x5 x7 x8 x9 x10 x11p x11l x11c x12 x13) h) = wk11 x3 x5 x7 x8 x9 x10 x11p x11l x11c x12 x13 h K := (Ek11 S0 x3 x5 x7 x8 x9 x10 x11p x11l x11c x12 x13 h K).trans (cg1 (fun q0 => Jk11 q0 x3 x5 x7 x8 x9 x10 x11p x11l x11c x12 x13 h K) (by funext x3 x5 x7 x8 x9 x10 x11p x11l x11c x12 x13 h; exact ex_congr fun m => eL11 K m x3 x5 x7 x8 x9 x10 x11p x11l x11c x12 x13 h))
def w (x0_0 x0_1 x0_2 x0_3 x1_0 x1_1 x1_2 x1_3 x1_4 x1_5 x1_6 x1_7 : Int) (h : Heap) (K : KK) : Prop :=
  J0 (fun x3 x5 x7 x8 x9 x10 x11p x11l x11c x12 x13 h => wk11 x3 x5 x7 x8 x9 x10 x11p x11l x11c x12 x13 h K) x0_0 x0_1 x0_2 x0_3 x1_0 x1_1 x1_2 x1_3 x1_4 x1_5 x1_6 x1_7 h K
theorem e0 (K : KK) (x0_0 x0_1 x0_2 x0_3 x1_0 x1_1 x1_2 x1_3 x1_4 x1_5 x1_6 x1_7 : Int) (h : Heap) : (E Tryz.prog X T S0 body (fin Tryz.prog Tryz.f8.results.toList K) (args0 0 [(.agg #[(.int .u64 x0_0), (.int .u64 x0_1), (.int .u64 x0_2), (.int .u64 x0_3)]), (.agg #[(.int .i8 x1_0), (.int .i8 x1_1), (.int .i8 x1_2), (.int .i8 x1_3), (.int .i8 x1_4), (.int .i8 x1_5), (.int .i8 x1_6), (.int .i8 x1_7)])]) h) = w x0_0 x0_1 x0_2 x0_3 x1_0 x1_1 x1_2 x1_3 x1_4 x1_5 x1_6 x1_7 h K := (E0 S0 x0_0 x0_1 x0_2 x0_3 x1_0 x1_1 x1_2 x1_3 x1_4 x1_5 x1_6 x1_7 h K).trans (cg1 (fun q0 => J0 q0 x0_0 x0_1 x0_2 x0_3 x1_0 x1_1 x1_2 x1_3 x1_4 x1_5 x1_6 x1_7 h K) (by funext x3 x5 x7 x8 x9 x10 x11p x11l x11c x12 x13 h; exact ek11 K x3 x5 x7 x8 x9 x10 x11p x11l x11c x12 x13 h))
theorem hb : Tryz.f8.body = some body := by kernel_rfl
theorem ok : okCode T Tryz.f8.ntmps body = true := by kernel_rfl
theorem spec (x0_0 : Int) (x0_1 : Int) (x0_2 : Int) (x0_3 : Int) (x1_0 : Int) (x1_1 : Int) (x1_2 : Int) (x1_3 : Int) (x1_4 : Int) (x1_5 : Int) (x1_6 : Int) (x1_7 : Int) (h : Heap) (K : KK) (H : w x0_0 x0_1 x0_2 x0_3 x1_0 x1_1 x1_2 x1_3 x1_4 x1_5 x1_6 x1_7 h K) : CallsH Tryz.prog 8 [(.agg #[(.int .u64 x0_0), (.int .u64 x0_1), (.int .u64 x0_2), (.int .u64 x0_3)]), (.agg #[(.int .i8 x1_0), (.int .i8 x1_1), (.int .i8 x1_2), (.int .i8 x1_3), (.int .i8 x1_4), (.int .i8 x1_5), (.int .i8 x1_6), (.int .i8 x1_7)])] h K :=
  calls_of_E (T := T) Xok mix Tryz.func8 hb ok rfl (by rw [e0]; exact H)
end F8
end Go.Proofs.YtnbnlhpleomaoaaGreat.Ev
/- HOW OFTEN A NODE'S FUNCTION IS TRUE, plainly: a node's count is half of its children's. Conditions: the nodes are in order (NOk), the levels are the variables. -/
namespace Go.Proofs.YtnbnlhpleomaoaaGreat.Ev
open Go
/-- how often it is true below k -/
def tN (p : Nat → Bool) (k : Nat) : Nat := (trs p k).length
theorem tN_zero (p : Nat → Bool) : tN p 0 = 0 := rfl
theorem tN_succ (p : Nat → Bool) (k : Nat) : tN p (k + 1) = tN p k + if p k then 1 else 0 := by
  unfold tN
  rw [trs_succ, List.length_append]
  cases p k <;> rfl
theorem tN_congr {p q : Nat → Bool} : ∀ {k : Nat}, (∀ x, x < k → p x = q x) → tN p k = tN q k
  | 0, _ => rfl
  | k + 1, h => by rw [tN_succ, tN_succ, tN_congr fun x hx => h x (by omega), h k (by omega)]
theorem tN_add (p : Nat → Bool) (a : Nat) : ∀ b, tN p (a + b) = tN p a + tN (fun x => p (a + x)) b
  | 0 => by rw [tN_zero]; rfl
  | b + 1 => by rw [← Nat.add_assoc, tN_succ, tN_add p a b, tN_succ]; omega
theorem flip_top {n x : Nat} (h : x < 2 ^ n) : x ^^^ 2 ^ n = 2 ^ n + x := by
  refine Nat.eq_of_testBit_eq fun i => ?_
  rw [Nat.testBit_xor, Nat.testBit_two_pow]
  rcases Nat.lt_trichotomy i n with h1 | h1 | h1
  · rw [Nat.testBit_two_pow_add_gt h1, decide_eq_false (by omega), Bool.xor_false]
  · subst h1
    rw [Nat.testBit_two_pow_add_eq, decide_eq_true rfl, Bool.xor_true]
  · have e : 2 ^ (n + 1) ≤ 2 ^ i := Nat.pow_le_pow_right (by decide) h1
    rw [Nat.pow_succ] at e
    rw [Nat.testBit_lt_two_pow (show x < 2 ^ i by omega), Nat.testBit_lt_two_pow (show 2 ^ n + x < 2 ^ i by omega), decide_eq_false (by omega), Bool.xor_false]
theorem half : ∀ (n v : Nat) {p q : Nat → Bool}, v < n → (∀ x, x < 2 ^ n → p (x ^^^ 2 ^ v) = p x) → (∀ x, x < 2 ^ n → q (x ^^^ 2 ^ v) = q x) →
    2 * tN (fun x => if x.testBit v then q x else p x) (2 ^ n) = tN p (2 ^ n) + tN q (2 ^ n)
  | 0, v, p, q, hv, _, _ => by omega
  | n + 1, v, p, q, hv, hp, hq => by
    have e : 2 ^ (n + 1) = 2 ^ n + 2 ^ n := by rw [Nat.pow_succ]; omega
    rw [e, tN_add, tN_add, tN_add]
    rcases Nat.lt_or_ge v n with h | h
    · have cm : ∀ x, x < 2 ^ n → 2 ^ n + (x ^^^ 2 ^ v) = (2 ^ n + x) ^^^ 2 ^ v := fun x hx => by
        have lt : x ^^^ 2 ^ v < 2 ^ n := Nat.xor_lt_two_pow hx (Nat.pow_lt_pow_right (by decide) h)
        rw [← flip_top lt, ← flip_top hx, Nat.xor_assoc, Nat.xor_assoc, Nat.xor_comm (2 ^ v)]
      have i1 := half n v (p := p) (q := q) h (fun x hx => hp x (by omega)) fun x hx => hq x (by omega)
      have i2 := half n v (p := fun x => p (2 ^ n + x)) (q := fun x => q (2 ^ n + x)) h (fun x hx => by show p _ = p _; rw [cm x hx, hp _ (by omega)]) fun x hx => by show q _ = q _; rw [cm x hx, hq _ (by omega)]
      have e2 : tN (fun x => if (2 ^ n + x).testBit v then q (2 ^ n + x) else p (2 ^ n + x)) (2 ^ n) = tN (fun x => if x.testBit v then q (2 ^ n + x) else p (2 ^ n + x)) (2 ^ n) :=
        tN_congr fun x _ => by rw [Nat.testBit_two_pow_add_gt h]
      rw [e2]
      omega
    · have : v = n := by omega
      subst this
      have p2 : tN (fun x => p (2 ^ v + x)) (2 ^ v) = tN p (2 ^ v) := tN_congr fun x hx => by rw [← flip_top hx, hp x (by omega)]
      have q2 : tN (fun x => q (2 ^ v + x)) (2 ^ v) = tN q (2 ^ v) := tN_congr fun x hx => by rw [← flip_top hx, hq x (by omega)]
      have l1 : tN (fun x => if x.testBit v then q x else p x) (2 ^ v) = tN p (2 ^ v) := tN_congr fun x hx => by rw [Nat.testBit_lt_two_pow hx]; rfl
      have l2 : tN (fun x => if (2 ^ v + x).testBit v then q (2 ^ v + x) else p (2 ^ v + x)) (2 ^ v) = tN q (2 ^ v) := tN_congr fun x hx => by
        rw [Nat.testBit_two_pow_add_eq, Nat.testBit_lt_two_pow hx, ← flip_top hx, hq x (by omega)]
        rfl
      rw [p2, q2, l1, l2]
      omega
section
variable {n : Nat} {f : Nat → Nat} {N : List (Option Nd)}
end
end Go.Proofs.YtnbnlhpleomaoaaGreat.Ev
/- THE LAWS OF LAYER 30: the sums of all weights (WeighSums). Conditions: the arguments are in their kinds' bounds. -/
namespace Go.Proofs.YtnbnlhpleomaoaaGreat.Ev
open Go
/-- 128 of each weight -/
def wS (w : List Int) : Nat → Int
  | 0 => 0
  | v + 1 => wS w v + 128 * w.getD v 0
def sV (c : List Int) (v : Nat) : List Nat → Int
  | [] => 0
  | x :: l => cst c x v + sV c v l
theorem sumC_sV (c : List Int) : ∀ l, sumC c l = sV c c.length l
  | [] => rfl
  | x :: l => by unfold sumC sV; rw [sumC_sV c l]
theorem sV_zero (c : List Int) : ∀ l, sV c 0 l = 0
  | [] => rfl
  | x :: l => by unfold sV; rw [sV_zero c l]; rfl
theorem sV_succ (c : List Int) (v : Nat) : ∀ l, sV c (v + 1) l = sV c v l + c.getD v 0 * ((l.filter fun x => x.testBit v).length : Int)
  | [] => by simp [sV]
  | x :: l => by
    unfold sV
    rw [sV_succ c v l, List.filter_cons]
    simp only [cst]
    cases x.testBit v with
    | true =>
      simp only [if_true, List.length_cons]
      rw [show (((l.filter fun x => x.testBit v).length + 1 : Nat) : Int) = ((l.filter fun x => x.testBit v).length : Int) + 1 by omega, Int.mul_add, Int.mul_one]
      omega
    | false =>
      simp only [Bool.false_eq_true, if_false]
      omega
theorem bits128 : ∀ v : Fin 8, ((List.range 256).filter fun x => x.testBit v.1).length = 128 := by decide +kernel
theorem sV_all (c : List Int) : ∀ v, v ≤ 8 → sV c v (List.range 256) = wS c v
  | 0, _ => sV_zero c _
  | v + 1, h => by rw [sV_succ, sV_all c v (by omega), bits128 ⟨v, by omega⟩]; show _ = wS c v + 128 * c.getD v 0; omega
theorem sum_split (c : List Int) (p q : Nat → Bool) (h : ∀ x, q x = !p x) : ∀ k, sumC c (trs p k) + sumC c (trs q k) = sumC c (List.range k)
  | 0 => rfl
  | k + 1 => by
    have ih := sum_split c p q h k
    rw [trs_succ, trs_succ, sumC_app, sumC_app, List.range_succ, sumC_app, h k]
    cases p k
    · simp [sumC]; omega
    · simp [sumC]; omega
theorem wS_bound {w : List Int} (h : ∀ y ∈ w, -128 ≤ y ∧ y ≤ 127) : ∀ v : Nat, -16384 * (v : Int) ≤ wS w v ∧ wS w v ≤ 16384 * (v : Int)
  | 0 => by simp [wS]
  | v + 1 => by
    have ih := wS_bound h v
    unfold wS
    have : -128 ≤ w.getD v 0 ∧ w.getD v 0 ≤ 127 := by
      by_cases hv : v < w.length
      · rw [show w.getD v 0 = w[v] by simp [List.getD, hv]]
        exact h _ (List.getElem_mem hv)
      · rw [List.getD_eq_getElem?_getD, List.getElem?_eq_none (by omega)]
        simp
    omega
theorem badC_i8 {w : List Int} (h : ∀ y ∈ w, -128 ≤ y ∧ y ≤ 127) : badC w = false := by
  unfold badC
  rw [List.any_eq_false]
  intro z hz
  have := h z hz
  simp
  omega
theorem own_ints {h : Heap} {lo c : Nat} {p : Option Addr} {zs : List Int} (W : Own h lo 1 p zs.length c (zs.map (.int .i64))) : Ints h .i64 p zs := fun i hi => by
  obtain ⟨b, e, r⟩ := W.rd (j := i) (by simpa using hi)
  refine ⟨_, e, ?_⟩
  rw [add_mk, Nat.zero_add, r, List.getElem?_map, List.getElem?_eq_getElem hi]
  simp [List.getD, hi]
/-- one weight more -/
theorem app_w {h : Heap} {bw lo i cap : Nat} {p : Option Addr} {w : List Int} {K : Option Addr → Nat → Nat → Heap → Prop} (A : At h bw (w.map (.int .i8))) (hi : i < w.length) (hi2 : i < 1000) (hw : ∀ y ∈ w, -128 ≤ y ∧ y ≤ 127)
    (W : Own h lo 1 p i cap ((w.take i).map (.int .i64))) (hlo : lo ≤ h.size)
    (hK : ∀ p' c' h', Own h' lo 1 p' (i + 1) c' ((w.take (i + 1)).map (.int .i64)) → Only (OwnB p) h h' → K p' (i + 1) c' h') :
    ldI .i8 (rd h (Addr.add ⟨bw, 0, none⟩ (Int.toNat (i : Int) * 1))) fun n1 => newK h (.cells #[.int .i64 (IntKind.wrap .i64 n1)] 3) fun b2 h3 => appK h3 3 1 8 #[.int .i64 (0 : Int)] p i cap (some (Addr.mk b2 0 none)) 1 K := by
  have hwi := hw _ (List.getElem_mem hi)
  refine ldI_of (n := w[i]) ?_ ?_
  · rw [add_mk, Nat.zero_add, Int.toNat_natCast, Nat.mul_one, At.rd A, List.getElem?_map, List.getElem?_eq_getElem hi]
    rfl
  rw [wrap_i64 (n := w[i]) (by omega) (by omega)]
  refine newK_at fun h3 A3 O3 z3 => ?_
  refine own_app (W.only O3 (by simp)) A3 rfl rfl (by omega) (by simp [Value.oneCell']) (by omega) fun p' c' h' W' O' f' => hK p' c' h' ?_ ((O3.mono (by simp)).trans O' fun b hb _ => hb)
  have e : (w.take (i + 1)).map (Value.int .i64) = (w.take i).map (Value.int .i64) ++ [Value.int .i64 w[i]] := by rw [List.take_add_one, List.getElem?_eq_getElem hi, List.map_append]; rfl
  rw [e]
  exact W'
theorem getw {h : Heap} {bw i : Nat} {w : List Int} {K : Int → Prop} (A : At h bw (w.map (.int .i8))) (hi : i < w.length) (hK : K (w.getD i 0)) : ldI .i8 (rd h (Addr.add ⟨bw, 0, none⟩ (Int.toNat (i : Int) * 1))) K := by
  refine ldI_of (n := w.getD i 0) ?_ hK
  rw [add_mk, Nat.zero_add, Int.toNat_natCast, Nat.mul_one, At.rd A, List.getElem?_map, List.getElem?_eq_getElem hi]
  simp [List.getD, hi]
theorem trs_range {p : Nat → Bool} {k : Nat} (h : ∀ x, p x = true) : trs p k = List.range k := trs_all fun x _ => h x
theorem trs_none {p : Nat → Bool} (h : ∀ x, p x = false) : ∀ k, trs p k = []
  | 0 => rfl
  | k + 1 => by rw [trs_succ, trs_none h k, h k]; rfl
set_option maxRecDepth 100000 in
theorem law8 (h : Heap) (z : List Int) (lz : z.length = 4) (rz : ∀ y ∈ z, IntKind.min .u64 ≤ y ∧ y ≤ IntKind.max .u64) (w : List Int) (lw : w.length = 8) (rw_ : ∀ y ∈ w, IntKind.min .i8 ≤ y ∧ y ≤ IntKind.max .i8) :
    CallsH Tryz.prog 8 [.agg (z.map (Value.int .u64)).toArray, .agg (w.map (Value.int .i8)).toArray] h (Lawful h) := by
  obtain ⟨g, hg, eg⟩ := arrW lz rz
  rw [eg]
  have hw : ∀ y ∈ w, -128 ≤ y ∧ y ≤ 127 := fun y hy => rw_ y hy
  obtain ⟨y0, y1, y2, y3, y4, y5, y6, y7, ew⟩ : ∃ y0 y1 y2 y3 y4 y5 y6 y7 : Int, w = [y0, y1, y2, y3, y4, y5, y6, y7] := by
    match w, lw with
    | [a, b, c, d, e, f, g, h], _ => exact ⟨a, b, c, d, e, f, g, h, rfl⟩
  have hcells : (Value.agg (w.map (Value.int .i8)).toArray) = .agg #[.int .i8 y0, .int .i8 y1, .int .i8 y2, .int .i8 y3, .int .i8 y4, .int .i8 y5, .int .i8 y6, .int .i8 y7] := by rw [ew]; rfl
  have hrow : (#[Value.int .i8 y0, .int .i8 y1, .int .i8 y2, .int .i8 y3, .int .i8 y4, .int .i8 y5, .int .i8 y6, .int .i8 y7] : Array Value).toList = w.map (.int .i8) := by rw [ew]; rfl
  rw [hcells]
  clear hcells ew
  refine F8.spec _ _ _ _ _ _ _ _ _ _ _ _ h _ ?_
  unfold F8.w F8.J0
  refine newK_at fun h1 A1 O1 z1 => newK_at fun h2 A2 O2 z2 => ?_
  rw [hrow] at A2
  replace A1 : At h1 h.size (wrow g) := A1
  refine known10 fun h3 O3 => ldB_of rfl ?_
  rw [Bool.not_true, bcase_false]
  refine sto_new (n := 8) (room := 400) (Q := QL 8 (fill 8) []) (by omega) (by omega) (by omega) (by omega) fun h4 s L S4 O4 g4 => ⟨_, _, rfl, ?_⟩
  rw [show ((0 : Int) != 0) = false from rfl, bcase_false]
  have A4 := ((A1.only O2 (by simp)).only O3 (by simp)).only O4 (by simp)
  have W4 := (A2.only O3 (by simp)).only O4 (by simp)
  have O04 := ((O1.trans O2 (by simp)).trans O3 (by simp)).trans O4 (by simp)
  have z04 := O04.size
  have z23 := O3.size
  have gl : ∀ b ∈ L, h2.size ≤ b := fun b hb => by have := g4 b hb; omega
  have gl0 : ∀ b ∈ L, h.size ≤ b := fun b hb => by have := gl b hb; omega
  refine rd4 A4 ?_
  have hb := bdn_le (n := 8) (by omega)
  have S4 : Sto h4 s L (XL 8 400 (fill 8) (fill 8) [] false) := S4
  refine make13 S4 (fill_8 (by decide)) hg (fill_indep (by decide) fun v hv hn => absurd (show 8 ≤ v from hn) (by omega)) (by show clN (lst 8) [] + bdn 8 0 + 2 ≤ 400; rw [cl_nil]; omega) fun h5 L5 N5 a E5 ha hs hc5 S5 O5 F5 => ⟨_, _, rfl, ?_⟩
  have S5' : Sto h5 s L5 (XL 8 400 (fill 8) (fill 8) N5 false) := sto_XL S5 S4.ok.1 E5
  have hc5' : clN (lst 8) N5 + 1 ≤ 0 + bdn 8 0 := hc5
  have O05 : Only [] h h5 := O04.grow O5 gl0
  have W5 := W4.only O5 (fun hm => by have := gl _ hm; omega)
  refine not24 S5' ha (by omega) fun h6 L6 N6 m E6 hm hsm hc6 S6 O6 F6 => ⟨_, _, rfl, ?_⟩
  have F05 : ∀ b ∈ L5, h2.size ≤ b := F5.ge gl (by have := O4.size; omega)
  have O06 : Only [] h h6 := O05.grow O6 fun b hb => by have := F05 b hb; omega
  have W6 := W5.only O6 (fun hm => by have := F05 _ hm; omega)
  have ha6 := E6.isN ha
  unfold F8.wk11 F8.Jk11
  have wb := wS_bound hw
  have main : ∀ (d i : Nat) (h' : Heap) (p : Option Addr) (cap : Nat), i + d = 8 → At h' h1.size (w.map (.int .i8)) → Sto h' s L6 (XL 8 400 (fill 8) (fill 8) N6 false) → Only [] h h' → Own h' h6.size 1 p i cap ((w.take i).map (.int .i64)) → h6.size ≤ h'.size →
      F8.wL11 (d + 1) ⟨h1.size, 0, none⟩ (some ⟨s, 0, none⟩) (a : Int) true (m : Int) 0 p i cap (wS w i) (i : Int) h' (Lawful h) := by
    intro d
    induction d with
    | zero =>
      intro i h' p cap hd A S O W hz
      have e : i = 8 := by omega
      subst e
      unfold F8.wL11 F8.JL11
      rw [decide_eq_false (by omega), bcase_false]
      unfold F8.wk15 F8.Jk15
      rw [← lw, List.take_length, lw] at W
      have W' : Own h' h6.size 1 p w.length cap (w.map (.int .i64)) := by rw [lw]; exact W
      have I := own_ints W'
      have hbad := badC_i8 hw
      have f8 : ∀ j, j < 8 → fill 8 j < 8 := fill_8 (by decide)
      have all : sumC w (List.range (2 ^ 8)) = wS w 8 := by rw [sumC_sV, lw]; exact sV_all w 8 (Nat.le_refl _)
      have b8 := wb 8
      have s18 : ∀ {h' : Heap} {a : Nat} {K : Value → Heap → Prop}, Sto h' s L6 (XL 8 400 (fill 8) (fill 8) N6 false) → isN N6 a → Ints h' .i64 p w → (∀ h'', Only [] h' h'' → K (.tuple #[.int .i64 (sumC w (trs (sm 8 (fill 8) N6 a) (2 ^ 8))), .int .i64 0]) h'') →
          CallsH Tryz.prog 18 [.pointer (some ⟨s, 0, none⟩), .int .u32 (a : Int), .slice p 8 cap] h' K := fun S ha I hK => by
        have := sum18 (cc := cap) S f8 ha I lw hbad hK
        rw [lw] at this
        exact this
      refine s18 S ha6 I fun k1 P1 => ⟨_, _, rfl, ?_⟩
      have Q1 := S.only0 P1
      have J1 := I.only P1 (by simp)
      refine s18 Q1 hm J1 fun k2 P2 => ⟨_, _, rfl, ?_⟩
      have Q2 := Q1.only0 P2
      have J2 := J1.only P2 (by simp)
      refine s18 (a := 1) Q2 (.inl (by omega)) J2 fun k3 P3 => ⟨_, _, rfl, ?_⟩
      have Q3 := Q2.only0 P3
      have J3 := J2.only P3 (by simp)
      refine s18 (a := 0) Q3 (.inl (by omega)) J3 fun k4 P4 => ⟨_, _, rfl, ?_⟩
      have OO := (((O.trans P1 (by simp)).trans P2 (by simp)).trans P3 (by simp)).trans P4 (by simp)
      have e1 : trs (sm 8 (fill 8) N6 1) (2 ^ 8) = List.range (2 ^ 8) := trs_range fun x => (sm_const (by omega)).trans rfl
      have e0 : trs (sm 8 (fill 8) N6 0) (2 ^ 8) = [] := trs_none (fun x => (sm_const (by omega)).trans rfl) _
      rw [e1, e0, all]
      have sp := sum_split w _ _ hsm (2 ^ 8)
      rw [all] at sp
      rw [sp, wrap_i64 (by omega) (by omega)]
      simp only [beq_self_eq_true, bcase_true]
      exact ⟨rfl, OO⟩
    | succ d ih =>
      intro i h' p cap hd A S O W hz
      unfold F8.wL11 F8.JL11
      rw [decide_eq_true (by omega), bcase_true]
      have bi := wb i
      have bi1 := wb (i + 1)
      refine ⟨by omega, by omega, app_w A (by omega) (by omega) hw W (by omega) fun p' c' h'' W' O' => ⟨by omega, by omega, ?_⟩⟩
      have nO : h1.size ∉ OwnB p := fun hm => by have := (W.lt _ hm).1; have := O06.size; have := A.lt; have := W6.lt; omega
      have A' := A.only O' nO
      refine getw A' (by omega) ?_
      have hwi : -128 ≤ w.getD i 0 ∧ w.getD i 0 ≤ 127 := by
        have hi : i < w.length := by omega
        rw [show w.getD i 0 = w[i] by simp [List.getD, hi]]
        exact hw _ (List.getElem_mem _)
      have e1 : IntKind.wrap .i64 (wS w i + IntKind.wrap .i64 (128 * IntKind.wrap .i64 (w.getD i 0))) = wS w (i + 1) := by
        rw [wrap_i64 (n := w.getD i 0) (by omega) (by omega), wrap_i64 (n := 128 * w.getD i 0) (by omega) (by omega), wrap_i64 (by omega) (by omega)]
        rfl
      have e2 : IntKind.wrap .i64 ((i : Int) + 1) = ((i + 1 : Nat) : Int) := by rw [wrap_i64 (by omega) (by omega)]; omega
      rw [e1, e2]
      refine ih (i + 1) h'' p' c' (by omega) A' (S.only O' fun b hb hl => ?_) (O.trans O' fun b hb hl => ?_) W' (by have := O'.size; omega)
      · have := (W.lt _ hb).1
        have := S6.lt _ hl
        omega
      · have := (W.lt _ hb).1
        have := O06.size
        omega
  exact ⟨_, main 8 0 h6 none 0 (by omega) W6 S6 O06 (Own.nil _ _ _) (Nat.le_refl _)⟩
end Go.Proofs.YtnbnlhpleomaoaaGreat.Ev
