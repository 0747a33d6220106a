/- PART 7 OF WHAT THE LAW EngineBusy STANDS ON: EngG5, CntP5, CntF5, CntA5, EngH5, EngJ5, LeF5, EngK5, EngL5, EngN5, EngO5, LawM5, LawN5. Conditions: each part names its own. -/
import Derived.Test.YtnofenejoebkhaaGreatG6
/- SESSIONS (package engine): the world of an engine; an engine made; a variable's node. Conditions: the world stands (EWd). -/
namespace Go.Proofs.YtnofenejoebkhaaGreat.Ev
open Go
/-- an order and its inverse -/
def PermOk (n : Nat) (fo gg : Nat → Nat) : Prop := (∀ v, v < n → gg v < n ∧ fo (gg v) = v) ∧ ∀ l, l < n → fo l < n ∧ gg (fo l) = l
theorem perm_fill (n : Nat) : PermOk n (fill n) (fill n) := by
  refine ⟨fun v hv => ?_, fun v hv => ?_⟩ <;>
  · have : fill n v = v := if_pos hv
    rw [this, this]
    exact ⟨hv, rfl⟩
structure EG where
  E : Eng
  n : Nat
  room : Nat
  fo : Nat → Nat
  gg : Nat → Nat
  off : Bool
  N : List (Option Nd)
  P : PS
  L : List Nat
  B : List Nat
  M : Nat
  f : Int → Int
structure EWd (h : Heap) (e : Nat) (G : EG) : Prop where
  W : Wld h G.E.p G.E.s G.n G.room G.fo G.gg G.off G.N G.P G.L
  R : RfB h G.E.r G.M G.f G.B
  I : EIs h e G.E
  C : CntOk G.f G.E
  de : e ∉ G.L ∧ (¬ PBl G.E.p G.P e) ∧ e ∉ G.B
  dB : ∀ b ∈ G.B, b ∉ G.L ∧ ¬ PBl G.E.p G.P b
  rg : ∀ i, i < 4 → ∀ r, r < 6 → (G.E.ses i).there r = true → isN G.N ((G.E.ses i).hnd r)
  r0 : ∀ i, i < 4 → ∀ r, r < 6 → (G.E.ses i).there r = false → (G.E.ses i).hnd r = 0
  mq : ∀ i, i < 4 → (G.E.ses i).cal.mask < 256
  po : PermOk G.n G.fo G.gg
/-- an engine's blocks -/
def ebl (e : Nat) (G : EG) : List Nat := e :: (G.L ++ (G.B ++ pbl G.E.p G.P))
structure Eside (e : Nat) (G : EG) (h : Heap) (G' : EG) (h' : Heap) : Prop where
  O : ∀ T, (∀ b ∈ ebl e G, b ∈ T) → Only T h h'
  B : ∀ b ∈ ebl e G', b ∈ ebl e G ∨ h.size ≤ b
section
variable {h h' h'' : Heap} {e : Nat} {G G' G'' : EG} {K : Value → Heap → Prop}
theorem mem_ebl {b : Nat} : b ∈ ebl e G ↔ b = e ∨ b ∈ G.L ∨ b ∈ G.B ∨ PBl G.E.p G.P b := by
  simp only [ebl, List.mem_cons, List.mem_append, mem_pbl]
theorem Eside.refl : Eside e G h G h := ⟨fun T _ => Only.refl _ _, fun b hb => .inl hb⟩
theorem Eside.size (a : Eside e G h G' h') : h.size ≤ h'.size := (a.O (ebl e G) fun b hb => hb).size
theorem Eside.trans (a : Eside e G h G' h') (b : Eside e G' h' G'' h'') : Eside e G h G'' h'' := by
  have hz := a.size
  refine ⟨fun T hT => (a.O T hT).trans (b.O (ebl e G') fun x hx => hx) fun x hx hl => ?_, fun x hx => ?_⟩
  · rcases a.B x hx with h | h
    · exact hT x h
    · omega
  · rcases b.B x hx with h | h
    · exact a.B x h
    · exact .inr (by omega)
theorem Eside.only0 (O : Only [] h h') : Eside e G h G h' := ⟨fun T _ => O.mono (by simp), fun b hb => .inl hb⟩
theorem Eside.only {h0 : Heap} (a : Eside e G h G' h') (O : Only [] h0 h) (hb : ∀ b ∈ ebl e G, h0.size ≤ b) : Only [] h0 h' :=
  O.trans (a.O (ebl e G) fun b hb => hb) fun b hb' hl => by have := hb b hb'; omega
theorem Eside.ge {z : Nat} (a : Eside e G h G' h') (hz : z ≤ h.size) (hb : ∀ b ∈ ebl e G, z ≤ b) : ∀ b ∈ ebl e G', z ≤ b := fun b hb' => by
  rcases a.B b hb' with h | h
  · exact hb b h
  · omega
/-- some blocks of the engine's have turned, no new one is its -/
theorem Eside.some {S : List Nat} (O : Only S h h') (hS : ∀ b ∈ S, b ∈ ebl e G) (hb : ∀ b ∈ ebl e G', b ∈ ebl e G) : Eside e G h G' h' := ⟨fun _ hT => O.mono fun b hb _ => hT b (hS b hb), fun b h => .inl (hb b h)⟩
theorem EWd.only0 (W : EWd h e G) (O : Only [] h h') : EWd h' e G := ⟨W.W.only0 O, W.R.only0 O, W.I.only0 O, W.C, W.de, W.dB, W.rg, W.r0, W.mq, W.po⟩
theorem EWd.lt (W : EWd h e G) : ∀ b ∈ ebl e G, b < h.size := fun b hb => by
  rcases mem_ebl.1 hb with hb | hb | hb | hb
  · subst hb; exact At.lt W.I
  · exact W.W.S.lt b hb
  · exact W.R.lt b hb
  · exact W.W.H.lt b hb
theorem Wld.only {p s n room : Nat} {fo gg : Nat → Nat} {off : Bool} {N : List (Option Nd)} {P : PS} {L S : List Nat} (W : Wld h p s n room fo gg off N P L) (O : Only S h h') (h1 : ∀ b ∈ S, b ∉ L) (h2 : ∀ b ∈ S, ¬ PBl p P b) : Wld h' p s n room fo gg off N P L :=
  ⟨W.S.only O h1, W.H.only O h2, W.Ok, W.GO, W.D⟩
theorem PoolOk.ext {n : Nat} {fo : Nat → Nat} {N N' : List (Option Nd)} {P : PS} (H : PoolOk n fo N P) (GO : GoalsOk N P) (ok : NOk n N) (E : Ex N N') : PoolOk n fo N' P ∧ phi n N' P = phi n N P ∧ psi n N' P + cntN N = psi n N P + cntN N' := by
  have em : ∀ j ∈ P.jobs, mus n N' j.A.fs = mus n N j.A.fs := fun j hj => mus_ext E (H.mst j hj).1.frs
  have en : ∀ j ∈ P.jobs, nbs n N' j.A.fs = nbs n N j.A.fs := fun j hj => nbs_ext E (H.mst j hj).1.frs
  refine ⟨⟨fun j hj => ⟨(H.mst j hj).1.ext (GO j hj) ok E, by rw [em j hj]; exact (H.mst j hj).2⟩, H.at_, H.one, H.loc, H.T, H.len, H.last, H.steals⟩, ?_, ?_⟩
  · unfold phi
    rw [List.map_congr_left em]
  · unfold psi
    rw [List.map_congr_left en]
    omega
theorem goals_ext {N N' : List (Option Nd)} {P : PS} (GO : GoalsOk N P) (E : Ex N N') : GoalsOk N' P := fun j hj => ⟨E.isN (GO j hj).1, E.isN (GO j hj).2.1, E.isN (GO j hj).2.2⟩
/-- a variable's level -/
theorem ord_level {b n v : Nat} {f g : Nat → Nat} (H : OrdIs h b n f g) (hn : n ≤ 8) (hv : v < n) (hK : K (.int .i64 (g v : Int)) h) : CallsH Tryz.prog 186 [.pointer (some ⟨b, 0, none⟩), .int .i64 (v : Int)] h K := by
  refine F186.spec _ _ h K ?_
  unfold F186.w F186.J0
  rw [decide_eq_false (by omega), bcase_false]
  simp only [add_mk, Nat.zero_add]
  refine ldI_of H.rd0 ?_
  rw [decide_eq_false (by omega), bcase_false]
  exact ⟨by omega, by omega, ldI_of (by rw [show 9 + Int.toNat (v : Int) * 1 = 9 + v by omega]; exact H.rdl (by omega)) hK⟩
theorem sto_room {s : Nat} {L : List Nat} {X : SX} (H : Sto h s L X) (hK : K (.int .i64 (X.room : Int)) h) : CallsH Tryz.prog 70 [ptrV s] h K := by
  obtain ⟨B, F, e, H⟩ := H
  refine F70.spec _ h K ?_
  unfold F70.w F70.J0
  exact ldI_of (by rw [add_mk, At.rd H.m.S]; rfl) hK
theorem sto_var {s v : Nat} {L : List Nat} {X : SX} (H : Sto h s L X) (hv : v < X.n) (hg : X.g v < X.n)
    (hK : ∀ h' L' N' r er, MkRel X.room X.N (X.g v) 0 1 N' r er → Sto h' s L' { X with N := N' } → Only L h h' → Fresh L L' h → K (.tuple #[.int .u32 (r : Int), .int .i64 (er : Int)]) h') :
    CallsH Tryz.prog 208 [ptrV s, .int .i64 (v : Int)] h K := by
  have ok := H.ok
  refine F208.spec _ _ h K ?_
  unfold F208.w F208.J0
  refine sto_order H fun c h1 Or g1 O1 => ldP_of rfl ?_
  refine ord_level Or ok.2.2.1 hv (ldI_of rfl ?_)
  have H1 := H.only0 O1
  have e0 : lvl X.n X.N 0 = X.n := by unfold lvl; rw [if_pos (by omega)]
  have e1 : lvl X.n X.N 1 = X.n := by unfold lvl; rw [if_pos (by omega)]
  refine sto_mk H1 (l := X.g v) (a := 0) (b := 1) hg (.inl (by omega)) (.inl (by omega)) (by rw [e0]; exact hg) (by rw [e1]; exact hg) fun h2 L2 N2 r er R S2 O2 F2 => ⟨_, _, rfl, ?_⟩
  exact hK h2 L2 N2 r er R S2 ((O1.mono (by simp)).trans O2 fun b hb _ => hb) fun b hb => by
    rcases F2 b hb with q | q
    · exact .inl q
    · exact .inr (by have := O1.size; omega)
/-- an engine made -/
theorem new18 {n room : Nat} {x : Int} (h1 : 1 ≤ n) (h8 : n ≤ 8) (r1 : 1 ≤ room) (r2 : room ≤ 32768)
    (hK : ∀ h' e G, EWd h' e G → G.E.ses = (eng0 0 0 0).ses → G.E.ans = 0 → G.n = n → G.room = room → G.fo = fill n → G.gg = fill n → G.off = false → G.N = [] → G.P.jobs = [] → G.P.ws.length = wkn x → locs G.P.ws = [] → G.P.last = 0 → G.M = 0 → (∀ b ∈ ebl e G, h.size ≤ b) → Only [] h h' → K (.tuple #[ptrV e, .int .i64 0]) h') :
    CallsH Tryz.prog 18 [.int .i64 (n : Int), .int .i64 (room : Int), .int .i64 x] h K := by
  refine F18.spec _ _ _ h K ?_
  unfold F18.w F18.J0
  refine sto_new (Q := QL n (fill n) []) h1 h8 r1 r2 fun k1 s L S1 O1 g1 => ⟨_, _, rfl, ?_⟩
  have S1 : Sto k1 s L (XL n room (fill n) (fill n) [] false) := S1
  rw [show ((0 : Int) != 0) = false from rfl, bcase_false]
  refine new34 (s := s) (x := x) fun k2 p P H2 e1 e2 e3 e4 e5 g2 O2 => ldP_of rfl ?_
  refine workers68 H2 (ldI_of rfl ?_)
  refine rf_new fun k3 r B R3 g3 O3 => ldP_of rfl ?_
  refine newK_at fun k4 A4 O4 z4 => ?_
  have wl := wkn_le x
  obtain ⟨Ok, GO, lo, ql⟩ := pool_fresh (n := n) (fo := fill n) (N := []) (P := P) (by omega) e2 e3 e4 e5
  have z1 := O1.size
  have z2 := O2.size
  have z3 := O3.size
  have hL := S1.lt
  have hP := H2.lt
  have hB := R3.lt
  have W2 : Wld k2 p s n room (fill n) (fill n) false [] P L := ⟨S1.only0 O2, H2, Ok, GO, fun b hb hm => by have := g2 b hb; have := hL b hm; omega⟩
  have W4 := (W2.only0 O3).only0 O4
  have R4 := R3.only0 O4
  have I4 : EIs k4 k3.size (eng0 s p r) := A4
  refine hK k4 k3.size ⟨eng0 s p r, n, room, fill n, fill n, false, [], P, L, B, 0, fun _ => 0⟩ ⟨W4, R4, I4, cnr_0 s p r, ⟨fun hm => by have := hL _ hm; omega, fun hm => by have := hP _ hm; omega, fun hm => by have := hB _ hm; omega⟩, fun b hb => ⟨fun hm => by have := hL b hm; have := g3 b hb; omega, fun hm => by have := hP b hm; have := g3 b hb; omega⟩, fun i hi r hr ht => (by cases ht), fun i hi r hr ht => rfl, fun i hi => (by show 0 < 256; omega), perm_fill n⟩ rfl rfl rfl rfl rfl rfl rfl rfl e2 e1 lo e4 rfl (fun b hb => ?_) (((O1.trans O2 (by simp)).trans O3 (by simp)).trans O4 (by simp))
  rcases mem_ebl.1 hb with hb | hb | hb | hb
  · subst hb; omega
  · exact g1 b hb
  · have := g3 b hb; omega
  · have := g2 b hb; omega
/-- a call's answer, the world behind it -/
def ansG (G : EG) (i : Nat) (er : Int) (n : Nat) : EG := { G with E := { G.E.put i (ansS (G.E.ses i) er n) with ans := G.E.ans + 1 } }
theorem ses_put {E : Eng} {i k : Nat} {x : Ses} : (E.put i x).ses k = if k = i then x else E.ses k := rfl
theorem ind_same {E E' : Eng} (hh : ∀ k, (E'.ses k).there = (E.ses k).there ∧ (E'.ses k).hnd = (E.ses k).hnd) (x : Nat) : cntR E' x = cntR E x := by
  have : indR E' x = indR E x := by
    funext k
    unfold indR
    rw [(hh (k / 6)).1, (hh (k / 6)).2]
  unfold cntR
  rw [this]
theorem e_answers {i : Nat} (W : EWd h e G) (hi : i < 4) {er : Int} {n : Nat} (ha : G.E.ans < 1000000000) (hK : ∀ h', EWd h' e (ansG G i er n) → Eside e G h (ansG G i er n) h' → K (.tuple #[]) h') :
    CallsH Tryz.prog 168 [ptrV e, .pointer (some ⟨e, 3 + 24 * i, none⟩), .agg #[.int .i64 er, .int .u64 (n : Int)]] h K := by
  refine answers168 W.I hi ha fun h' I' O' => ?_
  have hs : ∀ k, ((ansG G i er n).E.ses k).there = (G.E.ses k).there ∧ ((ansG G i er n).E.ses k).hnd = (G.E.ses k).hnd ∧ ((ansG G i er n).E.ses k).cal = (G.E.ses k).cal := fun k => by
    show ((G.E.put i (ansS (G.E.ses i) er n)).ses k).there = _ ∧ ((G.E.put i (ansS (G.E.ses i) er n)).ses k).hnd = _ ∧ ((G.E.put i (ansS (G.E.ses i) er n)).ses k).cal = _
    rw [ses_put]
    by_cases q : k = i
    · rw [if_pos q, q]; exact ⟨rfl, rfl, rfl⟩
    · rw [if_neg q]; exact ⟨rfl, rfl, rfl⟩
  refine hK h' ⟨W.W.only O' (fun b hb => by simp at hb; subst hb; exact W.de.1) (fun b hb => by simp at hb; subst hb; exact W.de.2.1), W.R.only O' (fun b hb => by simp at hb; subst hb; exact W.de.2.2), I', fun x => ?_, W.de, W.dB, fun k hk r hr ht => ?_, fun k hk r hr ht => ?_, fun k hk => ?_, W.po⟩ (Eside.some O' (fun b hb => by simp at hb; subst hb; exact mem_ebl.2 (.inl rfl)) fun b hb => hb)
  · rw [ind_same fun k => ⟨(hs k).1, (hs k).2.1⟩]; exact W.C x
  · rw [(hs k).2.1]; rw [(hs k).1] at ht; exact W.rg k hk r hr ht
  · rw [(hs k).2.1]; rw [(hs k).1] at ht; exact W.r0 k hk r hr ht
  · rw [(hs k).2.2]; exact W.mq k hk
/-- a register set, the world behind it -/
def setG (G : EG) (i d v : Nat) (f' : Int → Int) : EG := { G with E := G.E.put i (setS (G.E.ses i) d v), M := G.M + 2, f := f' }
theorem e_sets {i d v : Nat} (W : EWd h e G) (hi : i < 4) (hd : d < 6) (ed : (G.E.ses i).cal.dst = (d : Int)) (hv : isN G.N v) (hM : G.M + 1 ≤ LB)
    (hK : ∀ h' f', EWd h' e (setG G i d v f') → Eside e G h (setG G i d v f') h' → K (.tuple #[]) h') : CallsH Tryz.prog 167 [ptrV e, .pointer (some ⟨e, 3 + 24 * i, none⟩), .int .u32 (v : Int)] h K := by
  have lt := W.W.S.isN_lt hv
  refine sets167 W.I W.R W.C W.de.2.2 hi hd ed (by omega) hM fun h' f' I' R' C' O' => ?_
  have hS : ∀ b ∈ e :: G.B, b ∉ G.L ∧ ¬ PBl G.E.p G.P b := fun b hb => by
    rcases List.mem_cons.1 hb with q | q
    · subst q; exact ⟨W.de.1, W.de.2.1⟩
    · exact W.dB b q
  refine hK h' f' ⟨W.W.only O' (fun b hb => (hS b hb).1) (fun b hb => (hS b hb).2), R', I', C', W.de, W.dB, fun k hk r hr ht => ?_, fun k hk r hr ht => ?_, fun k hk => ?_, W.po⟩ (Eside.some O' (fun b hb => ?_) fun b hb => hb)
  · have ht : ((G.E.put i (setS (G.E.ses i) d v)).ses k).there r = true := ht
    show isN G.N (((G.E.put i (setS (G.E.ses i) d v)).ses k).hnd r)
    rw [ses_put] at ht ⊢
    by_cases q : k = i
    · rw [if_pos q] at ht ⊢
      by_cases w : r = d
      · subst w
        rw [show (setS (G.E.ses i) r v).hnd r = v from upN_eq]
        exact hv
      · rw [show (setS (G.E.ses i) d v).hnd r = (G.E.ses i).hnd r from upN_ne w]
        rw [show (setS (G.E.ses i) d v).there r = (G.E.ses i).there r from upN_ne w] at ht
        exact W.rg i hi r hr ht
    · rw [if_neg q] at ht ⊢
      exact W.rg k hk r hr ht
  · have ht : ((G.E.put i (setS (G.E.ses i) d v)).ses k).there r = false := ht
    show ((G.E.put i (setS (G.E.ses i) d v)).ses k).hnd r = 0
    rw [ses_put] at ht ⊢
    by_cases q : k = i
    · rw [if_pos q] at ht ⊢
      by_cases w : r = d
      · subst w
        rw [show (setS (G.E.ses i) r v).there r = true from upN_eq] at ht
        cases ht
      · rw [show (setS (G.E.ses i) d v).hnd r = (G.E.ses i).hnd r from upN_ne w]
        rw [show (setS (G.E.ses i) d v).there r = (G.E.ses i).there r from upN_ne w] at ht
        exact W.r0 i hi r hr ht
    · rw [if_neg q] at ht ⊢
      exact W.r0 k hk r hr ht
  · show ((G.E.put i (setS (G.E.ses i) d v)).ses k).cal.mask < 256
    rw [ses_put]
    by_cases q : k = i
    · rw [if_pos q]; exact W.mq i hi
    · rw [if_neg q]; exact W.mq k hk
  · rcases List.mem_cons.1 hb with q | q
    · subst q; exact mem_ebl.2 (.inl rfl)
    · exact mem_ebl.2 (.inr (.inr (.inl q)))
end
end Go.Proofs.YtnofenejoebkhaaGreat.Ev
/- HOW OFTEN A NODE'S FUNCTION IS TRUE, plainly: a node's count is half of its children's. Conditions: the nodes are in order (NOk), the levels are the variables. -/
namespace Go.Proofs.YtnofenejoebkhaaGreat.Ev
open Go
def trs (p : Nat → Bool) (k : Nat) : List Nat := (List.range k).filter p
theorem trs_succ (p : Nat → Bool) (k : Nat) : trs p (k + 1) = trs p k ++ if p k then [k] else [] := by
  unfold trs
  rw [List.range_succ, List.filter_append]
  cases h : p k <;> simp [h]
/-- how often it is true below k -/
def tN (p : Nat → Bool) (k : Nat) : Nat := (trs p k).length
theorem tN_zero (p : Nat → Bool) : tN p 0 = 0 := rfl
theorem tN_succ (p : Nat → Bool) (k : Nat) : tN p (k + 1) = tN p k + if p k then 1 else 0 := by
  unfold tN
  rw [trs_succ, List.length_append]
  cases p k <;> rfl
theorem tN_congr {p q : Nat → Bool} : ∀ {k : Nat}, (∀ x, x < k → p x = q x) → tN p k = tN q k
  | 0, _ => rfl
  | k + 1, h => by rw [tN_succ, tN_succ, tN_congr fun x hx => h x (by omega), h k (by omega)]
theorem tN_add (p : Nat → Bool) (a : Nat) : ∀ b, tN p (a + b) = tN p a + tN (fun x => p (a + x)) b
  | 0 => by rw [tN_zero]; rfl
  | b + 1 => by rw [← Nat.add_assoc, tN_succ, tN_add p a b, tN_succ]; omega
theorem flip_top {n x : Nat} (h : x < 2 ^ n) : x ^^^ 2 ^ n = 2 ^ n + x := by
  refine Nat.eq_of_testBit_eq fun i => ?_
  rw [Nat.testBit_xor, Nat.testBit_two_pow]
  rcases Nat.lt_trichotomy i n with h1 | h1 | h1
  · rw [Nat.testBit_two_pow_add_gt h1, decide_eq_false (by omega), Bool.xor_false]
  · subst h1
    rw [Nat.testBit_two_pow_add_eq, decide_eq_true rfl, Bool.xor_true]
  · have e : 2 ^ (n + 1) ≤ 2 ^ i := Nat.pow_le_pow_right (by decide) h1
    rw [Nat.pow_succ] at e
    rw [Nat.testBit_lt_two_pow (show x < 2 ^ i by omega), Nat.testBit_lt_two_pow (show 2 ^ n + x < 2 ^ i by omega), decide_eq_false (by omega), Bool.xor_false]
theorem half : ∀ (n v : Nat) {p q : Nat → Bool}, v < n → (∀ x, x < 2 ^ n → p (x ^^^ 2 ^ v) = p x) → (∀ x, x < 2 ^ n → q (x ^^^ 2 ^ v) = q x) →
    2 * tN (fun x => if x.testBit v then q x else p x) (2 ^ n) = tN p (2 ^ n) + tN q (2 ^ n)
  | 0, v, p, q, hv, _, _ => by omega
  | n + 1, v, p, q, hv, hp, hq => by
    have e : 2 ^ (n + 1) = 2 ^ n + 2 ^ n := by rw [Nat.pow_succ]; omega
    rw [e, tN_add, tN_add, tN_add]
    rcases Nat.lt_or_ge v n with h | h
    · have cm : ∀ x, x < 2 ^ n → 2 ^ n + (x ^^^ 2 ^ v) = (2 ^ n + x) ^^^ 2 ^ v := fun x hx => by
        have lt : x ^^^ 2 ^ v < 2 ^ n := Nat.xor_lt_two_pow hx (Nat.pow_lt_pow_right (by decide) h)
        rw [← flip_top lt, ← flip_top hx, Nat.xor_assoc, Nat.xor_assoc, Nat.xor_comm (2 ^ v)]
      have i1 := half n v (p := p) (q := q) h (fun x hx => hp x (by omega)) fun x hx => hq x (by omega)
      have i2 := half n v (p := fun x => p (2 ^ n + x)) (q := fun x => q (2 ^ n + x)) h (fun x hx => by show p _ = p _; rw [cm x hx, hp _ (by omega)]) fun x hx => by show q _ = q _; rw [cm x hx, hq _ (by omega)]
      have e2 : tN (fun x => if (2 ^ n + x).testBit v then q (2 ^ n + x) else p (2 ^ n + x)) (2 ^ n) = tN (fun x => if x.testBit v then q (2 ^ n + x) else p (2 ^ n + x)) (2 ^ n) :=
        tN_congr fun x _ => by rw [Nat.testBit_two_pow_add_gt h]
      rw [e2]
      omega
    · have : v = n := by omega
      subst this
      have p2 : tN (fun x => p (2 ^ v + x)) (2 ^ v) = tN p (2 ^ v) := tN_congr fun x hx => by rw [← flip_top hx, hp x (by omega)]
      have q2 : tN (fun x => q (2 ^ v + x)) (2 ^ v) = tN q (2 ^ v) := tN_congr fun x hx => by rw [← flip_top hx, hq x (by omega)]
      have l1 : tN (fun x => if x.testBit v then q x else p x) (2 ^ v) = tN p (2 ^ v) := tN_congr fun x hx => by rw [Nat.testBit_lt_two_pow hx]; rfl
      have l2 : tN (fun x => if (2 ^ v + x).testBit v then q (2 ^ v + x) else p (2 ^ v + x)) (2 ^ v) = tN q (2 ^ v) := tN_congr fun x hx => by
        rw [Nat.testBit_two_pow_add_eq, Nat.testBit_lt_two_pow hx, ← flip_top hx, hq x (by omega)]
        rfl
      rw [p2, q2, l1, l2]
      omega
section
variable {n : Nat} {f : Nat → Nat} {N : List (Option Nd)}
end
end Go.Proofs.YtnofenejoebkhaaGreat.Ev
/- PRINTED BY PROGRAM: what each of these functions does, computed over heaps by the evaluator, and that its calls do so. Conditions: none. -/
namespace Go.Proofs.YtnofenejoebkhaaGreat.Ev
open Go
end Go.Proofs.YtnofenejoebkhaaGreat.Ev
/- COUNT (package count): how often a node's function is true. Conditions: the store stands (Sto), the levels are the variables. -/
namespace Go.Proofs.YtnofenejoebkhaaGreat.Ev
open Go
section
variable {h : Heap} {s : Nat} {L : List Nat} {X : SX}
end
end Go.Proofs.YtnofenejoebkhaaGreat.Ev
/- SESSIONS (package engine): what a call does at once (a variable, a constant, a register emptied, a number); a pick. Conditions: the world stands (EWd); room is made as MRspec tells. -/
namespace Go.Proofs.YtnofenejoebkhaaGreat.Ev
open Go
/-- what a collection leaves -/
structure Coll (G G' : EG) : Prop where
  E : G'.E = G.E
  n : G'.n = G.n
  room : G'.room = G.room
  fo : G'.fo = G.fo
  gg : G'.gg = G.gg
  off : G'.off = G.off
  P : G'.P = G.P
  f : G'.f = G.f
  ex : Ex G'.N G.N
  cnt : cntN G'.N ≤ cntN G.N
  M : G.M ≤ G'.M ∧ G'.M ≤ G.M + 1000
  ok : NOk G'.n G'.N
  rg : ∀ i, i < 4 → ∀ r, r < 6 → (G.E.ses i).there r = true → isN G'.N ((G.E.ses i).hnd r)
theorem Coll.refl {h : Heap} {e : Nat} {G : EG} (W : EWd h e G) : Coll G G := ⟨rfl, rfl, rfl, rfl, rfl, rfl, rfl, rfl, Ex.refl _, Nat.le_refl _, ⟨Nat.le_refl _, by omega⟩, W.W.S.ok.1, W.rg⟩
/-- room is made, where C says so -/
def MRspec (C : Nat → Nat → Prop) : Prop := ∀ {h : Heap} {e : Nat} {G : EG} {K : Value → Heap → Prop}, EWd h e G → C (cntN G.N) G.room → G.M ≤ LB / 1000 →
  (∀ h' G', EWd h' e G' → Coll G G' → Eside e G h G' h' → K (.tuple #[]) h') → CallsH Tryz.prog 80 [ptrV e] h K
section
variable {h h' : Heap} {e : Nat} {G G' : EG} {K : Value → Heap → Prop}
theorem mr_less : MRspec fun c r => c < r := by
  intro h e G K W hc hM hK
  refine F80.spec _ h K ?_
  unfold F80.w F80.J0
  have rs : rd h ⟨e, 0, none⟩ = some (.pointer (some ⟨G.E.s, 0, none⟩)) := W.I.s
  simp only [add_mk, Nat.zero_add]
  refine ldP_of rs (ldP_of rs (sto_len W.W.S (ldI_of rfl ⟨trivial, trivial, trivial, ldP_of rs ⟨rfl, sto_room W.W.S (ldI_of rfl ?_)⟩⟩)))
  have hc : cntN (XL G.n G.room G.fo G.gg G.N G.off).N < (XL G.n G.room G.fo G.gg G.N G.off).room := hc
  rw [decide_eq_false (by omega), bcase_false]
  exact hK h G W (Coll.refl W) Eside.refl
/-- the store has more nodes, the world stands -/
def stoG (G : EG) (N' : List (Option Nd)) (L' : List Nat) : EG := { G with N := N', L := L' }
theorem EWd.sto {N' : List (Option Nd)} {L' : List Nat} (W : EWd h e G) (S : Sto h' G.E.s L' { XL G.n G.room G.fo G.gg G.N G.off with N := N' }) (E : Ex G.N N') (O : Only G.L h h') (F : Fresh G.L L' h) :
    EWd h' e (stoG G N' L') ∧ Eside e G h (stoG G N' L') h' := by
  have ok := W.W.S.ok.1
  have lt := W.lt
  have DP : ∀ b, PBl G.E.p G.P b → b ∉ L' := fun b hb hm => by
    rcases F b hm with q | q
    · exact W.W.D b hb q
    · have := lt b (mem_ebl.2 (.inr (.inr (.inr hb)))); omega
  refine ⟨⟨⟨sto_XL S ok E, W.W.H.only O fun b hb hp => W.W.D b hp hb, (W.W.Ok.ext W.W.GO ok E).1, goals_ext W.W.GO E, DP⟩, W.R.only O (fun b hb hm => (W.dB b hm).1 hb), W.I.only O W.de.1, W.C, ⟨fun hm => ?_, W.de.2.1, W.de.2.2⟩, fun b hb => ⟨fun hm => ?_, (W.dB b hb).2⟩, fun i hi r hr ht => E.isN (W.rg i hi r hr ht), W.r0, W.mq, W.po⟩, ⟨fun T hT => O.mono fun b hb _ => hT b (mem_ebl.2 (.inr (.inl hb))), fun b hb => ?_⟩⟩
  · rcases F e hm with q | q
    · exact W.de.1 q
    · have := lt e (mem_ebl.2 (.inl rfl)); omega
  · rcases F b hm with q | q
    · exact (W.dB b hb).1 q
    · have := lt b (mem_ebl.2 (.inr (.inr (.inl hb)))); omega
  · rcases mem_ebl.1 hb with q | q | q | q
    · exact .inl (mem_ebl.2 (.inl q))
    · rcases F b q with q | q
      · exact .inl (mem_ebl.2 (.inr (.inl q)))
      · exact .inr q
    · exact .inl (mem_ebl.2 (.inr (.inr (.inl q))))
    · exact .inl (mem_ebl.2 (.inr (.inr (.inr q))))
theorem mk_ex {room : Nat} {N N' : List (Option Nd)} {l a b r er : Nat} (R : MkRel room N l a b N' r er) : Ex N N' ∧ (er = 0 ∨ er = 60) ∧ (er = 60 → room ≤ cntN N ∧ N' = N) := by
  rcases R with ⟨-, -, e, e2⟩ | ⟨-, i, -, -, e, e2⟩ | ⟨-, -, h1, -, e, e2⟩ | ⟨-, -, -, e, q, -, p⟩
  · subst e2; exact ⟨Ex.refl _, .inl e, fun h => by omega⟩
  · subst e2; exact ⟨Ex.refl _, .inl e, fun h => by omega⟩
  · subst e2; exact ⟨Ex.refl _, .inr e, fun _ => ⟨h1, rfl⟩⟩
  · exact ⟨p.ext, .inl e, fun h => by omega⟩
end
end Go.Proofs.YtnofenejoebkhaaGreat.Ev
/- SESSIONS (package engine): what a call does at once (a variable, a constant, a register emptied); a pick, step by step. Conditions: the world stands (EWd); room is made as MRspec tells. -/
namespace Go.Proofs.YtnofenejoebkhaaGreat.Ev
open Go
/-- the function that does a kind of calls -/
def stepN (k : Int) : Nat := if k = 1 ∨ k = 2 ∨ k = 6 then 123 else if k = 4 ∨ k = 5 then 124 else if k = 7 then 125 else if k = 8 then 126 else 127
def sesP (e i : Nat) : Value := .pointer (some ⟨e, 3 + 24 * i, none⟩)
theorem go123 : xget X 123 = some Ext.go := by kernel_rfl
theorem go124 : xget X 124 = some Ext.go := by kernel_rfl
theorem go125 : xget X 125 = some Ext.go := by kernel_rfl
theorem go126 : xget X 126 = some Ext.go := by kernel_rfl
theorem go127 : xget X 127 = some Ext.go := by kernel_rfl
theorem go_step (k : Int) : xget X (stepN k) = some Ext.go := by
  unfold stepN
  repeat' split
  · exact go123
  · exact go124
  · exact go125
  · exact go126
  · exact go127
section
variable {h h' : Heap} {e : Nat} {G G' : EG} {K : Value → Heap → Prop} {C : Nat → Nat → Prop}
theorem step79 {c : Cal} (hK : ∀ h', Only [] h h' → K (.func (.func (stepN c.kind)) #[ptrV e] #[]) h') : CallsH Tryz.prog 79 [ptrV e, calV c] h K := by
  refine F79.spec _ _ _ _ _ _ _ _ h K ?_
  unfold F79.w F79.J0
  refine newK_at fun h1 A1 O1 z1 => ?_
  simp only [add_mk, Nat.zero_add]
  refine ldI_of (n := c.kind) (by rw [At.rd A1]; rfl) ?_
  have hK := hK h1 O1
  obtain ⟨k, ek⟩ : ∃ k, k = c.kind := ⟨_, rfl⟩
  rw [← ek] at hK ⊢
  unfold stepN at hK
  by_cases h1 : k = 1
  · subst h1; exact hK
  by_cases h2 : k = 2
  · subst h2; exact hK
  by_cases h4 : k = 4
  · subst h4; exact hK
  by_cases h5 : k = 5
  · subst h5; exact hK
  by_cases h6 : k = 6
  · subst h6; exact hK
  by_cases h7 : k = 7
  · subst h7; exact hK
  by_cases h8 : k = 8
  · subst h8; exact hK
  rw [if_neg (by omega), if_neg (by omega), if_neg h7, if_neg h8] at hK
  simp only [eqz h1, eqz h2, eqz h4, eqz h5, eqz h6, eqz h7, eqz h8, bcase_false]
  exact hK
theorem workers27 (W : EWd h e G) (hK : K (.int .i64 (G.P.ws.length : Int)) h) : CallsH Tryz.prog 27 [ptrV e] h K := by
  refine F27.spec _ h K ?_
  unfold F27.w F27.J0
  exact ldP_of (by rw [add_mk]; exact W.I.p) (workers68 W.W.H (ldI_of rfl hK))
/-- a pick, as an invariant over the sessions that were looked at -/
theorem pick26 {who draw : Int} (W : EWd h e G) (hOut : (who < 0 ∨ (G.P.ws.length : Int) ≤ who ∨ ¬ anyP G.E) → ∀ h', Only [] h h' → K (.bool false) h')
    (Inv : Nat → Heap → EG → Prop) (h0 : ∀ h', Only [] h h' → Inv 0 h' G) (hO : ∀ {i h1 G1 h2}, Inv i h1 G1 → Only [] h1 h2 → Inv i h2 G1) (hW : ∀ {i h1 G1}, Inv i h1 G1 → EWd h1 e G1)
    (hn : ∀ {i h1 G1}, i < 4 → Inv i h1 G1 → (G1.E.ses i).pend = false → Inv (i + 1) h1 G1)
    (hs : ∀ {i h1 G1} {Q : Value → Heap → Prop}, i < 4 → Inv i h1 G1 → (G1.E.ses i).pend = true → (∀ b h2 G2, Inv (i + 1) h2 G2 → Q (.bool b) h2) → CallsH Tryz.prog (stepN (G1.E.ses i).cal.kind) [ptrV e, sesP e i] h1 Q)
    (hE : 0 ≤ who → who < (G.P.ws.length : Int) → anyP G.E → ∀ h1 G1, Inv 4 h1 G1 → F26.wk11 ⟨e, 0, none⟩ who draw h1 K) :
    CallsH Tryz.prog 26 [ptrV e, .int .i64 who, .int .i64 draw] h K := by
  refine F26.spec _ _ _ h K ?_
  unfold F26.w F26.J0
  refine bcase_of (fun q => hOut (.inl (of_decide_eq_true q)) h (Only.refl _ _)) fun q => ?_
  have q := of_decide_eq_false q
  refine workers27 W (ldI_of rfl (bcase_of (fun p => hOut (.inr (.inl (of_decide_eq_true p))) h (Only.refl _ _)) fun p => ?_))
  have p : ¬ (G.P.ws.length : Int) ≤ who := of_decide_eq_false p
  refine pending78 W.I (fun a h1 O1 => ldB_of rfl ?_) fun a h1 O1 => ldB_of rfl (hOut (.inr (.inr a)) h1 O1)
  rw [Bool.not_true, bcase_false]
  unfold F26.wk4 F26.Jk4
  have main : ∀ (d i : Nat) (hh : Heap) (G1 : EG), d + i = 4 → Inv i hh G1 → F26.wL4 (d + 1) ⟨e, 0, none⟩ who draw (i : Int) hh K := by
    intro d
    induction d with
    | zero =>
      intro i hh G1 hi I
      unfold F26.wL4 F26.JL4
      rw [decide_eq_false (by omega), bcase_false]
      have ei : i = 4 := by omega
      subst ei
      exact hE (by omega) (by omega) a hh G1 I
    | succ d ih =>
      intro i hh G1 hi I
      unfold F26.wL4 F26.JL4
      rw [decide_eq_true (by omega), bcase_true]
      have hi4 : i < 4 := by omega
      have W1 := hW I
      simp only [add_mk]
      rw [show 0 + 3 + Int.toNat (i : Int) * 24 = 3 + 24 * i by omega]
      have nx : ∀ {h2 G2}, Inv (i + 1) h2 G2 → F26.wL4 (d + 1) ⟨e, 0, none⟩ who draw (IntKind.wrap .i64 ((i : Int) + 1)) h2 K := fun {h2 G2} I2 => by
        rw [wr_s hi4]
        exact ih (i + 1) h2 G2 (by omega) I2
      refine ⟨by omega, by omega, ldB_of (W1.I.pend hi4 rfl) (bcase_of (fun pe => ?_) fun pe => nx (hn hi4 I pe))⟩
      refine ldI_of (W1.I.kind hi4 (by omega)) (ldI_of (W1.I.op hi4 (by omega)) (ldI_of (W1.I.dst hi4 (by omega)) (ldI_of (W1.I.ca hi4 (by omega)) (ldI_of (W1.I.cb hi4 (by omega)) (ldI_of (W1.I.cc hi4 (by omega)) (ldI_of (W1.I.mask hi4 (by omega)) ?_))))))
      refine step79 (c := (G1.E.ses i).cal) fun h2 O2 => ⟨_, rfl, ?_⟩
      refine dynK_go (go_step _) ?_
      exact hs hi4 (hO I O2) pe fun b h3 G3 I3 => ldB_of rfl (nx I3)
  exact ⟨_, main 4 0 h1 G (by omega) (h0 h1 O1)⟩
/-- what the end of a pick leaves -/
def PickR (w : Nat) (G G' : EG) : Prop := ∃ G1 N' P' L' k, Coll G G1 ∧ G' = { G1 with N := N', P := P', L := L' } ∧ Picked G1.n G1.fo G1.room G1.N N' G1.P P' ∧ G1.P.ws[w]? = some k ∧ (phi G1.n N' P' + 1 ≤ phi G1.n G1.N G1.P ∨ (k.job = 0 ∧ k.q = [] ∧ WsEq G1.P.ws P'.ws))
theorem EWd.pool {N' : List (Option Nd)} {P' : PS} {L' : List Nat} (W : EWd h e G) (W' : Wld h' G.E.p G.E.s G.n G.room G.fo G.gg G.off N' P' L') (E : Ex G.N N') (S : Beside G.E.p G.P G.L h P' L' h') :
    EWd h' e { G with N := N', P := P', L := L' } ∧ Eside e G h { G with N := N', P := P', L := L' } h' := by
  have lt := W.lt
  have O' := S.O (pbl G.E.p G.P ++ G.L) (fun b hb => List.mem_append.2 (.inl (mem_pbl.2 hb))) fun b hb => List.mem_append.2 (.inr hb)
  have spare : ∀ {b}, b ∉ G.L → ¬ PBl G.E.p G.P b → b ∉ pbl G.E.p G.P ++ G.L := fun h1 h2 hm => by
    rcases List.mem_append.1 hm with q | q
    · exact h2 (mem_pbl.1 q)
    · exact h1 q
  have nL : ∀ {b}, b ∈ ebl e G → b ∉ G.L → b ∉ L' := fun hb hn hm => by
    rcases S.F _ hm with q | q
    · exact hn q
    · have := lt _ hb; omega
  have nP : ∀ {b}, b ∈ ebl e G → ¬ PBl G.E.p G.P b → ¬ PBl G.E.p P' b := fun hb hn hm => by
    rcases S.B _ hm with q | q
    · exact hn q
    · have := lt _ hb; omega
  have me : e ∈ ebl e G := mem_ebl.2 (.inl rfl)
  have mB : ∀ b ∈ G.B, b ∈ ebl e G := fun b hb => mem_ebl.2 (.inr (.inr (.inl hb)))
  refine ⟨⟨W', W.R.only O' fun b hb hm => (spare (W.dB b hm).1 (W.dB b hm).2) hb, W.I.only O' (spare W.de.1 W.de.2.1), W.C, ⟨nL me W.de.1, nP me W.de.2.1, W.de.2.2⟩, fun b hb => ⟨nL (mB b hb) (W.dB b hb).1, nP (mB b hb) (W.dB b hb).2⟩, fun i hi r hr ht => E.isN (W.rg i hi r hr ht), W.r0, W.mq, W.po⟩, ⟨fun T hT => S.O T (fun b hb => hT b (mem_ebl.2 (.inr (.inr (.inr hb))))) fun b hb => hT b (mem_ebl.2 (.inr (.inl hb))), fun b hb => ?_⟩⟩
  rcases mem_ebl.1 hb with q | q | q | q
  · exact .inl (mem_ebl.2 (.inl q))
  · rcases S.F b q with q | q
    · exact .inl (mem_ebl.2 (.inr (.inl q)))
    · exact .inr q
  · exact .inl (mem_ebl.2 (.inr (.inr (.inl q))))
  · rcases S.B b q with q | q
    · exact .inl (mem_ebl.2 (.inr (.inr (.inr q))))
    · exact .inr q
theorem pick_end (mr : MRspec C) (W : EWd h e G) (hC : C (cntN G.N) G.room) (hM : G.M ≤ LB / 1000) {draw : Int} {w : Nat} (hw : w < G.P.ws.length)
    (hK : ∀ h' G', EWd h' e G' → Eside e G h G' h' → PickR w G G' → K (.bool true) h') : F26.wk11 ⟨e, 0, none⟩ (w : Int) draw h K := by
  unfold F26.wk11 F26.Jk11
  refine mr W hC hM fun h1 G1 W1 C1 S1 => ⟨rfl, ?_⟩
  simp only [add_mk, Nat.zero_add]
  refine ldP_of W1.I.p ?_
  have hl : (G1.P.ws.length : Int) = (G.P.ws.length : Int) := by rw [C1.P]
  refine wld_pick W1.W (who := (w : Int)) (fun q => by omega) fun h2 L2 N2 P2 b w' k ew hk W2 Pk _ hph B2 => ldB_of rfl ?_
  have ew : w' = w := by omega
  subst ew
  obtain ⟨W3, S3⟩ := W1.pool W2 Pk.ex B2
  exact hK h2 _ W3 (S1.trans S3) ⟨G1, N2, P2, L2, k, C1, rfl, Pk, hk, hph⟩
/-- a variable's call -/
def VarR (i d : Nat) (G G' : EG) (er : Int) : Prop := ∃ G1 N2 L2 r er' f', Coll G G1 ∧ MkRel G1.room G1.N (G1.gg (G.E.ses i).cal.mask) 0 1 N2 r er' ∧ er = (er' : Int) ∧ G' = if er' = 0 then setG (stoG G1 N2 L2) i d r f' else stoG G1 N2 L2
theorem e_variable (mr : MRspec C) (W : EWd h e G) {i d : Nat} (hi : i < 4) (hC : C (cntN G.N) G.room) (hM : G.M + 2000 ≤ LB / 1000) (hv : (G.E.ses i).cal.mask < G.n) (hd : d < 6) (ed : (G.E.ses i).cal.dst = (d : Int))
    (hK : ∀ h' G' (er : Int), EWd h' e G' → Eside e G h G' h' → VarR i d G G' er → K (.int .i64 er) h') : CallsH Tryz.prog 165 [ptrV e, sesP e i] h K := by
  have hLB : LB = 140737488355328 := rfl
  refine F165.spec _ _ h K ?_
  unfold F165.w F165.J0
  refine mr W hC (by omega) fun h1 G1 W1 C1 S1 => ⟨rfl, ?_⟩
  simp only [add_mk, Nat.zero_add]
  have mq := W.mq i hi
  refine ldP_of W1.I.s (ldI_of (n := ((G.E.ses i).cal.mask : Int)) (by rw [W1.I.mask hi (by omega), C1.E]) ?_)
  rw [wrap_i64 (by omega) (by omega)]
  have hv1 : (G.E.ses i).cal.mask < G1.n := by rw [C1.n]; exact hv
  have pg := (W1.po.1 _ hv1).1
  refine sto_var W1.W.S hv1 pg fun h2 L2 N2 r er R S2 O2 F2 => ⟨_, _, rfl, ?_⟩
  have R : MkRel G1.room G1.N (G1.gg (G.E.ses i).cal.mask) 0 1 N2 r er := R
  obtain ⟨E2, e2, -⟩ := mk_ex R
  obtain ⟨W2, T2⟩ := W1.sto S2 E2 O2 F2
  rcases e2 with q | q
  · subst q
    rw [show (((0 : Nat) : Int) == 0) = true from rfl, bcase_true]
    have hr : isN N2 r := by
      have e0 : lvl G1.n G1.N 0 = G1.n := by unfold lvl; rw [if_pos (by omega)]
      exact (mk_node (f := G1.fo) W1.W.S.ok.1 W2.W.S.ok.1 (a := 0) (b := 1) (.inl (by omega)) (.inl (by omega)) (show _ < lvl G1.n G1.N 0 by rw [e0]; exact pg) R).2.1
    have ed1 : ((stoG G1 N2 L2).E.ses i).cal.dst = (d : Int) := by show (G1.E.ses i).cal.dst = _; rw [C1.E]; exact ed
    have hm1 : (stoG G1 N2 L2).M + 1 ≤ LB := by show G1.M + 1 ≤ LB; have := C1.M.2; omega
    refine e_sets W2 hi hd ed1 hr hm1 fun h3 f3 W3 T3 => ⟨rfl, hK h3 _ _ W3 ((S1.trans T2).trans T3) ⟨G1, N2, L2, r, 0, f3, C1, R, rfl, by rw [if_pos rfl]⟩⟩
  · subst q
    rw [show (((60 : Nat) : Int) == 0) = false from rfl, bcase_false]
    exact hK h2 _ _ W2 (S1.trans T2) ⟨G1, N2, L2, r, 60, G1.f, C1, R, rfl, by rw [if_neg (by omega)]⟩
end
end Go.Proofs.YtnofenejoebkhaaGreat.Ev
/- PRINTED BY PROGRAM: what each of these functions does, computed over heaps by the evaluator, and that its calls do so. Conditions: none. -/
namespace Go.Proofs.YtnofenejoebkhaaGreat.Ev
open Go
-- spinney/spinneylaw22.fair
namespace F42
def T : Hint := ⟨[(2, [0, 3]), (5, [0, 3, 4]), (8, [0])], []⟩
noncomputable def body : Code := (Tryz.f42.body).getD .skip
noncomputable def en (S : Stop) (p : List Nat) (κ : XK) : Fr → Heap → Prop := E Tryz.prog X T S (sub body p) κ
noncomputable def ln (S : Stop) (p : List Nat) (κ : XK) (n : Nat) : Fr → Heap → Prop := loopN S (E Tryz.prog X T S (sub body p)) (cutQ T (sub body p)) κ n
def fn (K : KK) : XK := fin Tryz.prog Tryz.f42.results.toList K
noncomputable def c0 (S : Stop) (K : KK) : XK := seqN S (cutQ T (sub body [1, 1])) (en S [1, 1] (fn K)) (fn K)
noncomputable def c1 (S : Stop) (K : KK) : XK := blockN 0 (c0 S K)
noncomputable def c2 (S : Stop) (n2 : Nat) (K : KK) : XK := backN S (cutQ T (sub body [1, 0, 1, 0, 0])) (ln S [1, 0, 1, 0, 0] (c1 S K) n2) (c1 S K)
noncomputable def c3 (S : Stop) (n2 : Nat) (K : KK) : XK := seqN S (cutQ T (sub body [1, 0, 1, 0, 0, 1, 1])) (en S [1, 0, 1, 0, 0, 1, 1] (c2 S n2 K)) (c2 S n2 K)
noncomputable def c4 (S : Stop) (n2 : Nat) (K : KK) : XK := blockN 1 (c3 S n2 K)
noncomputable def c5 (S : Stop) (n2 : Nat) (K : KK) : XK := blockN 2 (c4 S n2 K)
noncomputable def c6 (S : Stop) (n2 : Nat) (n5 : Nat) (K : KK) : XK := backN S (cutQ T (sub body [1, 0, 1, 0, 0, 1, 0, 0, 1, 0, 0])) (ln S [1, 0, 1, 0, 0, 1, 0, 0, 1, 0, 0] (c5 S n2 K) n5) (c5 S n2 K)
def f2 (x0 : Addr) (x3 : Int) : Fr := [(0, (.pointer (some x0))), (3, (.int .i64 x3))]
def f5 (x0 : Addr) (x3 x4 : Int) : Fr := [(0, (.pointer (some x0))), (3, (.int .i64 x3)), (4, (.int .i64 x4))]
def f8 (x0 : Addr) : Fr := [(0, (.pointer (some x0)))]
def J0 (k2 : Addr → Int → Heap → Prop) (x0 : Addr) (h : Heap) (_K : KK) : Prop :=
  k2 x0 (0 : Int) h
theorem E0 (S : Stop) (x0 : Addr) (h : Heap) (K : KK) : (E Tryz.prog X T S body (fin Tryz.prog Tryz.f42.results.toList K) (args0 0 [(.pointer (some x0))]) h) = J0 (fun x0 x3 h => S (en S [1, 0, 1] (c0 S K)) (f2 x0 x3) h) x0 h K := by kernel_rfl
def Jk2 (lp2 : Addr → Int → Heap → Prop) (x0 : Addr) (x3 : Int) (h : Heap) (_K : KK) : Prop :=
  lp2 x0 x3 h
theorem Ek2 (S : Stop) (x0 : Addr) (x3 : Int) (h : Heap) (K : KK) : (en S [1, 0, 1] (c0 S K) (f2 x0 x3) h) = Jk2 (fun x0 x3 h => ∃ n, S (ln S [1, 0, 1, 0, 0] (c1 S K) n) (f2 x0 x3) h) x0 x3 h K := by kernel_rfl
def JL2 (k5 : Addr → Int → Int → Heap → Prop) (k8 : Addr → Heap → Prop) (x0 : Addr) (x3 : Int) (h : Heap) (_K : KK) : Prop :=
  bcase (decide (x3 < (1048576 : Int))) (CallsH Tryz.prog 99 [(.pointer (some x0))] h (fun v1 h2 => ldB (some v1) (fun b3 => bcase b3 (k5 x0 x3 (0 : Int) h2) (k8 x0 h2)))) (k8 x0 h)
theorem EL2 (S : Stop) (n2 : Nat) (x0 : Addr) (x3 : Int) (h : Heap) (K : KK) : (en S [1, 0, 1, 0, 0] (c2 S n2 K) (f2 x0 x3) h) = JL2 (fun x0 x3 x4 h => S (en S [1, 0, 1, 0, 0, 1, 0, 0, 1] (c4 S n2 K)) (f5 x0 x3 x4) h) (fun x0 h => S (en S [1, 1] (fn K)) (f8 x0) h) x0 x3 h K := by kernel_rfl
def Jk5 (lp5 : Addr → Int → Int → Heap → Prop) (x0 : Addr) (x3 x4 : Int) (h : Heap) (_K : KK) : Prop :=
  lp5 x0 x3 x4 h
theorem Ek5 (S : Stop) (n2 : Nat) (x0 : Addr) (x3 x4 : Int) (h : Heap) (K : KK) : (en S [1, 0, 1, 0, 0, 1, 0, 0, 1] (c4 S n2 K) (f5 x0 x3 x4) h) = Jk5 (fun x0 x3 x4 h => ∃ n, S (ln S [1, 0, 1, 0, 0, 1, 0, 0, 1, 0, 0] (c5 S n2 K) n) (f5 x0 x3 x4) h) x0 x3 x4 h K := by kernel_rfl
def JL5 (bk5 : Addr → Int → Int → Heap → Prop) (bk2 : Addr → Int → Heap → Prop) (x0 : Addr) (x3 x4 : Int) (h : Heap) (_K : KK) : Prop :=
  CallsH Tryz.prog 27 [(.pointer (some x0))] h (fun v1 h2 => ldI .i64 (some v1) (fun n3 => bcase (decide (x4 < n3)) (CallsH Tryz.prog 26 [(.pointer (some x0)), (.int .i64 x4), (.int .i64 x3)] h2 (fun v4 h5 => ldB (some v4) (fun _ => bk5 x0 x3 (IntKind.wrap .i64 (x4 + (1 : Int))) h5))) (bk2 x0 (IntKind.wrap .i64 (x3 + (1 : Int))) h2)))
theorem EL5 (S : Stop) (n2 : Nat) (n5 : Nat) (x0 : Addr) (x3 x4 : Int) (h : Heap) (K : KK) : (en S [1, 0, 1, 0, 0, 1, 0, 0, 1, 0, 0] (c6 S n2 n5 K) (f5 x0 x3 x4) h) = JL5 (fun x0 x3 x4 h => S (ln S [1, 0, 1, 0, 0, 1, 0, 0, 1, 0, 0] (c5 S n2 K) n5) (f5 x0 x3 x4) h) (fun x0 x3 h => S (ln S [1, 0, 1, 0, 0] (c1 S K) n2) (f2 x0 x3) h) x0 x3 x4 h K := by kernel_rfl
def Jk8 (x0 : Addr) (h : Heap) (K : KK) : Prop :=
  CallsH Tryz.prog 99 [(.pointer (some x0))] h (fun v1 h2 => ldB (some v1) (fun b3 => K (.bool (!b3)) h2))
theorem Ek8 (S : Stop) (x0 : Addr) (h : Heap) (K : KK) : (en S [1, 1] (fn K) (f8 x0) h) = Jk8 x0 h K := by kernel_rfl
def wL5 (bk2 : Addr → Int → Heap → Prop) : Nat → Addr → Int → Int → Heap → KK → Prop
  | 0, _, _, _, _, _ => False
  | n + 1, x0, x3, x4, h, K => JL5 (fun x0 x3 x4 h => wL5 bk2 n x0 x3 x4 h K) bk2 x0 x3 x4 h K
theorem eL5 (K : KK) (n2 : Nat) (bk2 : Addr → Int → Heap → Prop) (hb2 : ∀ (x0 : Addr) (x3 : Int) (h : Heap), (ln S0 [1, 0, 1, 0, 0] (c1 S0 K) n2 (f2 x0 x3) h) = bk2 x0 x3 h) : ∀ (n : Nat) (x0 : Addr) (x3 x4 : Int) (h : Heap), (ln S0 [1, 0, 1, 0, 0, 1, 0, 0, 1, 0, 0] (c5 S0 n2 K) n (f5 x0 x3 x4) h) = wL5 bk2 n x0 x3 x4 h K
  | 0, _, _, _, _ => rfl
  | n + 1, x0, x3, x4, h => (EL5 S0 n2 n x0 x3 x4 h K).trans (cg2 (fun q0 q1 => JL5 q0 q1 x0 x3 x4 h K) (by funext x0 x3 x4 h; exact (fun x0 x3 x4 h => eL5 K n2 bk2 hb2 n x0 x3 x4 h) x0 x3 x4 h) (by funext x0 x3 h; exact hb2 x0 x3 h))
def wk5 (bk2 : Addr → Int → Heap → Prop) (x0 : Addr) (x3 x4 : Int) (h : Heap) (K : KK) : Prop :=
  Jk5 (fun x0 x3 x4 h => ∃ m, wL5 bk2 m x0 x3 x4 h K) x0 x3 x4 h K
theorem ek5 (K : KK) (n2 : Nat) (bk2 : Addr → Int → Heap → Prop) (hb2 : ∀ (x0 : Addr) (x3 : Int) (h : Heap), (ln S0 [1, 0, 1, 0, 0] (c1 S0 K) n2 (f2 x0 x3) h) = bk2 x0 x3 h) (x0 : Addr) (x3 x4 : Int) (h : Heap) : (en S0 [1, 0, 1, 0, 0, 1, 0, 0, 1] (c4 S0 n2 K) (f5 x0 x3 x4) h) = wk5 bk2 x0 x3 x4 h K := (Ek5 S0 n2 x0 x3 x4 h K).trans (cg1 (fun q0 => Jk5 q0 x0 x3 x4 h K) (by funext x0 x3 x4 h; exact ex_congr fun m => eL5 K n2 bk2 hb2 m x0 x3 x4 h))
def wk8 (x0 : Addr) (h : Heap) (K : KK) : Prop :=
  Jk8 x0 h K
theorem ek8 (K : KK) (x0 : Addr) (h : Heap) : (en S0 [1, 1] (fn K) (f8 x0) h) = wk8 x0 h K := (Ek8 S0 x0 h K).trans (rfl)
def wL2 : Nat → Addr → Int → Heap → KK → Prop
  | 0, _, _, _, _ => False
  | n + 1, x0, x3, h, K => JL2 (fun x0 x3 x4 h => wk5 (fun x0 x3 h => wL2 n x0 x3 h K) x0 x3 x4 h K) (fun x0 h => wk8 x0 h K) x0 x3 h K
theorem eL2 (K : KK) : ∀ (n : Nat) (x0 : Addr) (x3 : Int) (h : Heap), (ln S0 [1, 0, 1, 0, 0] (c1 S0 K) n (f2 x0 x3) h) = wL2 n x0 x3 h K
  | 0, _, _, _ => rfl
  | n + 1, x0, x3, h => (EL2 S0 n x0 x3 h K).trans (cg2 (fun q0 q1 => JL2 q0 q1 x0 x3 h K) (by funext x0 x3 x4 h; exact ek5 K n (fun x0 x3 h => wL2 n x0 x3 h K) (fun x0 x3 h => eL2 K n x0 x3 h) x0 x3 x4 h) (by funext x0 h; exact ek8 K x0 h))
def wk2 (x0 : Addr) (x3 : Int) (h : Heap) (K : KK) : Prop :=
  Jk2 (fun x0 x3 h => ∃ m, wL2 m x0 x3 h K) x0 x3 h K
theorem ek2 (K : KK) (x0 : Addr) (x3 : Int) (h : Heap) : (en S0 [1, 0, 1] (c0 S0 K) (f2 x0 x3) h) = wk2 x0 x3 h K := (Ek2 S0 x0 x3 h K).trans (cg1 (fun q0 => Jk2 q0 x0 x3 h K) (by funext x0 x3 h; exact ex_congr fun m => eL2 K m x0 x3 h))
def w (x0 : Addr) (h : Heap) (K : KK) : Prop :=
  J0 (fun x0 x3 h => wk2 x0 x3 h K) x0 h K
theorem e0 (K : KK) (x0 : Addr) (h : Heap) : (E Tryz.prog X T S0 body (fin Tryz.prog Tryz.f42.results.toList K) (args0 0 [(.pointer (some x0))]) h) = w x0 h K := (E0 S0 x0 h K).trans (cg1 (fun q0 => J0 q0 x0 h K) (by funext x0 x3 h; exact ek2 K x0 x3 h))
theorem hb : Tryz.f42.body = some body := by kernel_rfl
theorem ok : okCode T Tryz.f42.ntmps body = true := by kernel_rfl
theorem spec (x0 : Addr) (h : Heap) (K : KK) (H : w x0 h K) : CallsH Tryz.prog 42 [(.pointer (some x0))] h K :=
  calls_of_E (T := T) Xok mix Tryz.func42 hb ok rfl (by rw [e0]; exact H)
end F42
-- spinney/spinneylaw22.pending
namespace F99
def T : Hint := ⟨[(2, [0, 3])], []⟩
noncomputable def body : Code := (Tryz.f99.body).getD .skip
noncomputable def en (S : Stop) (p : List Nat) (κ : XK) : Fr → Heap → Prop := E Tryz.prog X T S (sub body p) κ
noncomputable def ln (S : Stop) (p : List Nat) (κ : XK) (n : Nat) : Fr → Heap → Prop := loopN S (E Tryz.prog X T S (sub body p)) (cutQ T (sub body p)) κ n
def fn (K : KK) : XK := fin Tryz.prog Tryz.f99.results.toList K
noncomputable def c0 (S : Stop) (K : KK) : XK := seqN S (cutQ T (sub body [1, 1])) (en S [1, 1] (fn K)) (fn K)
noncomputable def c1 (S : Stop) (K : KK) : XK := blockN 0 (c0 S K)
noncomputable def c2 (S : Stop) (n2 : Nat) (K : KK) : XK := backN S (cutQ T (sub body [1, 0, 1, 0, 0])) (ln S [1, 0, 1, 0, 0] (c1 S K) n2) (c1 S K)
def f2 (x0 : Addr) (x3 : Int) : Fr := [(0, (.pointer (some x0))), (3, (.int .i64 x3))]
def J0 (k2 : Addr → Int → Heap → Prop) (x0 : Addr) (h : Heap) (_K : KK) : Prop :=
  k2 x0 (0 : Int) h
theorem E0 (S : Stop) (x0 : Addr) (h : Heap) (K : KK) : (E Tryz.prog X T S body (fin Tryz.prog Tryz.f99.results.toList K) (args0 0 [(.pointer (some x0))]) h) = J0 (fun x0 x3 h => S (en S [1, 0, 1] (c0 S K)) (f2 x0 x3) h) x0 h K := by kernel_rfl
def Jk2 (lp2 : Addr → Int → Heap → Prop) (x0 : Addr) (x3 : Int) (h : Heap) (_K : KK) : Prop :=
  lp2 x0 x3 h
theorem Ek2 (S : Stop) (x0 : Addr) (x3 : Int) (h : Heap) (K : KK) : (en S [1, 0, 1] (c0 S K) (f2 x0 x3) h) = Jk2 (fun x0 x3 h => ∃ n, S (ln S [1, 0, 1, 0, 0] (c1 S K) n) (f2 x0 x3) h) x0 x3 h K := by kernel_rfl
def JL2 (bk2 : Addr → Int → Heap → Prop) (x0 : Addr) (x3 : Int) (h : Heap) (K : KK) : Prop :=
  bcase (decide (x3 < (4 : Int))) (CallsH Tryz.prog 56 [(.pointer (some x0)), (.int .i64 x3)] h (fun v1 h2 => ldB (some v1) (fun b3 => bcase b3 (K (.bool true) h2) (bk2 x0 (IntKind.wrap .i64 (x3 + (1 : Int))) h2)))) (K (.bool false) h)
theorem EL2 (S : Stop) (n2 : Nat) (x0 : Addr) (x3 : Int) (h : Heap) (K : KK) : (en S [1, 0, 1, 0, 0] (c2 S n2 K) (f2 x0 x3) h) = JL2 (fun x0 x3 h => S (ln S [1, 0, 1, 0, 0] (c1 S K) n2) (f2 x0 x3) h) x0 x3 h K := by kernel_rfl
def wL2 : Nat → Addr → Int → Heap → KK → Prop
  | 0, _, _, _, _ => False
  | n + 1, x0, x3, h, K => JL2 (fun x0 x3 h => wL2 n x0 x3 h K) x0 x3 h K
theorem eL2 (K : KK) : ∀ (n : Nat) (x0 : Addr) (x3 : Int) (h : Heap), (ln S0 [1, 0, 1, 0, 0] (c1 S0 K) n (f2 x0 x3) h) = wL2 n x0 x3 h K
  | 0, _, _, _ => rfl
  | n + 1, x0, x3, h => (EL2 S0 n x0 x3 h K).trans (cg1 (fun q0 => JL2 q0 x0 x3 h K) (by funext x0 x3 h; exact (fun x0 x3 h => eL2 K n x0 x3 h) x0 x3 h))
def wk2 (x0 : Addr) (x3 : Int) (h : Heap) (K : KK) : Prop :=
  Jk2 (fun x0 x3 h => ∃ m, wL2 m x0 x3 h K) x0 x3 h K
theorem ek2 (K : KK) (x0 : Addr) (x3 : Int) (h : Heap) : (en S0 [1, 0, 1] (c0 S0 K) (f2 x0 x3) h) = wk2 x0 x3 h K := (Ek2 S0 x0 x3 h K).trans (cg1 (fun q0 => Jk2 q0 x0 x3 h K) (by funext x0 x3 h; exact ex_congr fun m => eL2 K m x0 x3 h))
def w (x0 : Addr) (h : Heap) (K : KK) : Prop :=
  J0 (fun x0 x3 h => wk2 x0 x3 h K) x0 h K
theorem e0 (K : KK) (x0 : Addr) (h : Heap) : (E Tryz.prog X T S0 body (fin Tryz.prog Tryz.f99.results.toList K) (args0 0 [(.pointer (some x0))]) h) = w x0 h K := (E0 S0 x0 h K).trans (cg1 (fun q0 => J0 q0 x0 h K) (by funext x0 x3 h; exact ek2 K x0 x3 h))
theorem hb : Tryz.f99.body = some body := by kernel_rfl
theorem ok : okCode T Tryz.f99.ntmps body = true := by kernel_rfl
theorem spec (x0 : Addr) (h : Heap) (K : KK) (H : w x0 h K) : CallsH Tryz.prog 99 [(.pointer (some x0))] h K :=
  calls_of_E (T := T) Xok mix Tryz.func99 hb ok rfl (by rw [e0]; exact H)
end F99
-- spinney/spinneylaw22.EngineBusy
namespace F9
def T : Hint := ⟨[(10, [0, 5, 7, 8]), (14, [0, 5, 7]), (15, [0, 5, 7, 9]), (18, [5, 7]), (21, [5, 7, 10]), (26, [5, 7])], []⟩
noncomputable def body : Code := (Tryz.f9.body).getD .skip
noncomputable def en (S : Stop) (p : List Nat) (κ : XK) : Fr → Heap → Prop := E Tryz.prog X T S (sub body p) κ
noncomputable def ln (S : Stop) (p : List Nat) (κ : XK) (n : Nat) : Fr → Heap → Prop := loopN S (E Tryz.prog X T S (sub body p)) (cutQ T (sub body p)) κ n
def fn (K : KK) : XK := fin Tryz.prog Tryz.f9.results.toList K
noncomputable def c0 (S : Stop) (K : KK) : XK := seqN S (cutQ T (sub body [1, 1, 1, 1, 1, 1, 1])) (en S [1, 1, 1, 1, 1, 1, 1] (fn K)) (fn K)
noncomputable def c1 (S : Stop) (K : KK) : XK := blockN 0 (c0 S K)
noncomputable def c2 (S : Stop) (n10 : Nat) (K : KK) : XK := backN S (cutQ T (sub body [1, 1, 1, 1, 1, 1, 0, 1, 0, 0])) (ln S [1, 1, 1, 1, 1, 1, 0, 1, 0, 0] (c1 S K) n10) (c1 S K)
noncomputable def c3 (S : Stop) (K : KK) : XK := seqN S (cutQ T (sub body [1, 1, 1, 1, 1, 1, 1, 1])) (en S [1, 1, 1, 1, 1, 1, 1, 1] (fn K)) (fn K)
noncomputable def c4 (S : Stop) (K : KK) : XK := blockN 2 (c3 S K)
noncomputable def c5 (S : Stop) (n15 : Nat) (K : KK) : XK := backN S (cutQ T (sub body [1, 1, 1, 1, 1, 1, 1, 0, 1, 0, 0])) (ln S [1, 1, 1, 1, 1, 1, 1, 0, 1, 0, 0] (c4 S K) n15) (c4 S K)
noncomputable def c6 (S : Stop) (K : KK) : XK := seqN S (cutQ T (sub body [1, 1, 1, 1, 1, 1, 1, 1, 1, 1])) (en S [1, 1, 1, 1, 1, 1, 1, 1, 1, 1] (fn K)) (fn K)
noncomputable def c7 (S : Stop) (K : KK) : XK := blockN 4 (c6 S K)
noncomputable def c8 (S : Stop) (n21 : Nat) (K : KK) : XK := backN S (cutQ T (sub body [1, 1, 1, 1, 1, 1, 1, 1, 1, 0, 1, 0, 0])) (ln S [1, 1, 1, 1, 1, 1, 1, 1, 1, 0, 1, 0, 0] (c7 S K) n21) (c7 S K)
def f10 (x0 : Int) (x5 : Option Addr) (x7 x8 : Int) : Fr := [(0, (.int .u8 x0)), (5, (.pointer x5)), (7, (.int .i64 x7)), (8, (.int .i64 x8))]
def f14 (x0 : Int) (x5 : Option Addr) (x7 : Int) : Fr := [(0, (.int .u8 x0)), (5, (.pointer x5)), (7, (.int .i64 x7))]
def f15 (x0 : Int) (x5 : Option Addr) (x7 x9 : Int) : Fr := [(0, (.int .u8 x0)), (5, (.pointer x5)), (7, (.int .i64 x7)), (9, (.int .i64 x9))]
def f18 (x5 : Option Addr) (x7 : Int) : Fr := [(5, (.pointer x5)), (7, (.int .i64 x7))]
def f21 (x5 : Option Addr) (x7 x10 : Int) : Fr := [(5, (.pointer x5)), (7, (.int .i64 x7)), (10, (.int .i64 x10))]
def f26 (x5 : Option Addr) (x7 : Int) : Fr := [(5, (.pointer x5)), (7, (.int .i64 x7))]
def J0 (k10 : Int → (Option Addr) → Int → Int → Heap → Prop) (x0 x1 : Int) (h : Heap) (K : KK) : Prop :=
  CallsH Tryz.prog 40 [] h (fun v1 h2 => ldB (some v1) (fun b3 => bcase (!b3) (K (.bool false) h2) (CallsH Tryz.prog 18 [(.int .i64 (4 : Int)), (.int .i64 (16384 : Int)), (.int .i64 (1 : Int))] h2 (fun v4 h5 => (∃ p6 : Option Addr, ∃ n7 : Int, v4 = (.tuple #[(.pointer p6), (.int .i64 n7)]) ∧ bcase (n7 != (0 : Int)) (K (.bool false) h5) (((4 : Int) ≠ 0 ∧ CallsH Tryz.prog 24 [(.pointer p6), (.int .i64 (IntKind.wrap .i64 (Int.tmod x1 (4 : Int)))), (.agg #[(.int .i64 (1 : Int)), (.int .i64 (0 : Int)), (.int .i64 (0 : Int)), (.int .i64 (0 : Int)), (.int .i64 (0 : Int)), (.int .i64 (0 : Int)), (.int .u8 (1 : Int))])] h5 (fun v8 h9 => ldI .i64 (some v8) (fun n10 => bcase (n10 != (0 : Int)) (K (.bool false) h9) (CallsH Tryz.prog 24 [(.pointer p6), (.int .i64 (IntKind.wrap .i64 (Int.tmod x1 (4 : Int)))), (.agg #[(.int .i64 (1 : Int)), (.int .i64 (0 : Int)), (.int .i64 (1 : Int)), (.int .i64 (0 : Int)), (.int .i64 (0 : Int)), (.int .i64 (0 : Int)), (.int .u8 (1 : Int))])] h9 (fun v11 h12 => ldI .i64 (some v11) (fun n13 => bcase (n13 != (220 : Int)) (K (.bool false) h12) (k10 x0 p6 (IntKind.wrap .i64 (Int.tmod x1 (4 : Int))) (0 : Int) h12)))))))))))))
theorem E0 (S : Stop) (x0 x1 : Int) (h : Heap) (K : KK) : (E Tryz.prog X T S body (fin Tryz.prog Tryz.f9.results.toList K) (args0 0 [(.int .u8 x0), (.int .u8 x1)]) h) = J0 (fun x0 x5 x7 x8 h => S (en S [1, 1, 1, 1, 1, 1, 0, 1] (c0 S K)) (f10 x0 x5 x7 x8) h) x0 x1 h K := by kernel_rfl
def Jk10 (lp10 : Int → (Option Addr) → Int → Int → Heap → Prop) (x0 : Int) (x5 : Option Addr) (x7 x8 : Int) (h : Heap) (_K : KK) : Prop :=
  lp10 x0 x5 x7 x8 h
theorem Ek10 (S : Stop) (x0 : Int) (x5 : Option Addr) (x7 x8 : Int) (h : Heap) (K : KK) : (en S [1, 1, 1, 1, 1, 1, 0, 1] (c0 S K) (f10 x0 x5 x7 x8) h) = Jk10 (fun x0 x5 x7 x8 h => ∃ n, S (ln S [1, 1, 1, 1, 1, 1, 0, 1, 0, 0] (c1 S K) n) (f10 x0 x5 x7 x8) h) x0 x5 x7 x8 h K := by kernel_rfl
def JL10 (bk10 : Int → (Option Addr) → Int → Int → Heap → Prop) (k14 : Int → (Option Addr) → Int → Heap → Prop) (x0 : Int) (x5 : Option Addr) (x7 x8 : Int) (h : Heap) (K : KK) : Prop :=
  bcase (decide (x8 < (4 : Int))) (bcase (x8 != x7) (CallsH Tryz.prog 24 [(.pointer x5), (.int .i64 x8), (.agg #[(.int .i64 (2 : Int)), (.int .i64 (0 : Int)), (.int .i64 (2 : Int)), (.int .i64 (0 : Int)), (.int .i64 (0 : Int)), (.int .i64 (0 : Int)), (.int .u8 (IntKind.wrap .u8 x8))])] h (fun v1 h2 => ldI .i64 (some v1) (fun n3 => bcase (n3 != (0 : Int)) (K (.bool false) h2) (bk10 x0 x5 x7 (IntKind.wrap .i64 (x8 + (1 : Int))) h2)))) (bk10 x0 x5 x7 (IntKind.wrap .i64 (x8 + (1 : Int))) h)) (k14 x0 x5 x7 h)
theorem EL10 (S : Stop) (n10 : Nat) (x0 : Int) (x5 : Option Addr) (x7 x8 : Int) (h : Heap) (K : KK) : (en S [1, 1, 1, 1, 1, 1, 0, 1, 0, 0] (c2 S n10 K) (f10 x0 x5 x7 x8) h) = JL10 (fun x0 x5 x7 x8 h => S (ln S [1, 1, 1, 1, 1, 1, 0, 1, 0, 0] (c1 S K) n10) (f10 x0 x5 x7 x8) h) (fun x0 x5 x7 h => S (en S [1, 1, 1, 1, 1, 1, 1] (fn K)) (f14 x0 x5 x7) h) x0 x5 x7 x8 h K := by kernel_rfl
def Jk14 (k15 : Int → (Option Addr) → Int → Int → Heap → Prop) (x0 : Int) (x5 : Option Addr) (x7 : Int) (h : Heap) (_K : KK) : Prop :=
  k15 x0 x5 x7 (0 : Int) h
theorem Ek14 (S : Stop) (x0 : Int) (x5 : Option Addr) (x7 : Int) (h : Heap) (K : KK) : (en S [1, 1, 1, 1, 1, 1, 1] (fn K) (f14 x0 x5 x7) h) = Jk14 (fun x0 x5 x7 x9 h => S (en S [1, 1, 1, 1, 1, 1, 1, 0, 1] (c3 S K)) (f15 x0 x5 x7 x9) h) x0 x5 x7 h K := by kernel_rfl
def Jk15 (lp15 : Int → (Option Addr) → Int → Int → Heap → Prop) (x0 : Int) (x5 : Option Addr) (x7 x9 : Int) (h : Heap) (_K : KK) : Prop :=
  lp15 x0 x5 x7 x9 h
theorem Ek15 (S : Stop) (x0 : Int) (x5 : Option Addr) (x7 x9 : Int) (h : Heap) (K : KK) : (en S [1, 1, 1, 1, 1, 1, 1, 0, 1] (c3 S K) (f15 x0 x5 x7 x9) h) = Jk15 (fun x0 x5 x7 x9 h => ∃ n, S (ln S [1, 1, 1, 1, 1, 1, 1, 0, 1, 0, 0] (c4 S K) n) (f15 x0 x5 x7 x9) h) x0 x5 x7 x9 h K := by kernel_rfl
def JL15 (bk15 : Int → (Option Addr) → Int → Int → Heap → Prop) (k18 : (Option Addr) → Int → Heap → Prop) (x0 : Int) (x5 : Option Addr) (x7 x9 : Int) (h : Heap) (_K : KK) : Prop :=
  ((5 : Int) ≠ 0 ∧ bcase (decide (x9 < (IntKind.wrap .i64 (Int.tmod x0 (5 : Int))))) (CallsH Tryz.prog 26 [(.pointer x5), (.int .i64 (0 : Int)), (.int .i64 x9)] h (fun v1 h2 => ldB (some v1) (fun _ => bk15 x0 x5 x7 (IntKind.wrap .i64 (x9 + (1 : Int))) h2))) (k18 x5 x7 h))
theorem EL15 (S : Stop) (n15 : Nat) (x0 : Int) (x5 : Option Addr) (x7 x9 : Int) (h : Heap) (K : KK) : (en S [1, 1, 1, 1, 1, 1, 1, 0, 1, 0, 0] (c5 S n15 K) (f15 x0 x5 x7 x9) h) = JL15 (fun x0 x5 x7 x9 h => S (ln S [1, 1, 1, 1, 1, 1, 1, 0, 1, 0, 0] (c4 S K) n15) (f15 x0 x5 x7 x9) h) (fun x5 x7 h => S (en S [1, 1, 1, 1, 1, 1, 1, 1] (fn K)) (f18 x5 x7) h) x0 x5 x7 x9 h K := by kernel_rfl
def Jk18 (k21 : (Option Addr) → Int → Int → Heap → Prop) (x5 : Option Addr) (x7 : Int) (h : Heap) (K : KK) : Prop :=
  CallsH Tryz.prog 42 [(.pointer x5)] h (fun v1 h2 => ldB (some v1) (fun b3 => bcase (!b3) (K (.bool false) h2) (CallsH Tryz.prog 54 [(.pointer x5)] h2 (fun v4 h5 => ldI .i64 (some v4) (fun n6 => bcase (n6 != (4 : Int)) (K (.bool false) h5) (CallsH Tryz.prog 26 [(.pointer x5), (.int .i64 (0 : Int)), (.int .i64 (0 : Int))] h5 (fun v7 h8 => ldB (some v7) (fun b9 => bcase b9 (K (.bool false) h8) (k21 x5 x7 (0 : Int) h8)))))))))
theorem Ek18 (S : Stop) (x5 : Option Addr) (x7 : Int) (h : Heap) (K : KK) : (en S [1, 1, 1, 1, 1, 1, 1, 1] (fn K) (f18 x5 x7) h) = Jk18 (fun x5 x7 x10 h => S (en S [1, 1, 1, 1, 1, 1, 1, 1, 1, 0, 1] (c6 S K)) (f21 x5 x7 x10) h) x5 x7 h K := by kernel_rfl
def Jk21 (lp21 : (Option Addr) → Int → Int → Heap → Prop) (x5 : Option Addr) (x7 x10 : Int) (h : Heap) (_K : KK) : Prop :=
  lp21 x5 x7 x10 h
theorem Ek21 (S : Stop) (x5 : Option Addr) (x7 x10 : Int) (h : Heap) (K : KK) : (en S [1, 1, 1, 1, 1, 1, 1, 1, 1, 0, 1] (c6 S K) (f21 x5 x7 x10) h) = Jk21 (fun x5 x7 x10 h => ∃ n, S (ln S [1, 1, 1, 1, 1, 1, 1, 1, 1, 0, 1, 0, 0] (c7 S K) n) (f21 x5 x7 x10) h) x5 x7 x10 h K := by kernel_rfl
def JL21 (bk21 : (Option Addr) → Int → Int → Heap → Prop) (k26 : (Option Addr) → Int → Heap → Prop) (x5 : Option Addr) (x7 x10 : Int) (h : Heap) (K : KK) : Prop :=
  bcase (decide (x10 < (4 : Int))) (CallsH Tryz.prog 28 [(.pointer x5), (.int .i64 x10), (.int .i64 (2 : Int))] h (fun v1 h2 => (∃ n3 : Int, ∃ b4 : Bool, v1 = (.tuple #[(.int .u32 n3), (.bool b4)]) ∧ bcase (x10 != x7) (bcase (!b4) (K (.bool false) h2) (bcase (!((n3 == (1 : Int)) == (decide (x10 > (0 : Int))))) (K (.bool false) h2) (bcase (decide (n3 > (1 : Int))) (K (.bool false) h2) (bcase (x10 == x7) (bcase b4 (K (.bool false) h2) (bk21 x5 x7 (IntKind.wrap .i64 (x10 + (1 : Int))) h2)) (bk21 x5 x7 (IntKind.wrap .i64 (x10 + (1 : Int))) h2))))) (bcase (x10 == x7) (bcase b4 (K (.bool false) h2) (bk21 x5 x7 (IntKind.wrap .i64 (x10 + (1 : Int))) h2)) (bk21 x5 x7 (IntKind.wrap .i64 (x10 + (1 : Int))) h2))))) (k26 x5 x7 h)
theorem EL21 (S : Stop) (n21 : Nat) (x5 : Option Addr) (x7 x10 : Int) (h : Heap) (K : KK) : (en S [1, 1, 1, 1, 1, 1, 1, 1, 1, 0, 1, 0, 0] (c8 S n21 K) (f21 x5 x7 x10) h) = JL21 (fun x5 x7 x10 h => S (ln S [1, 1, 1, 1, 1, 1, 1, 1, 1, 0, 1, 0, 0] (c7 S K) n21) (f21 x5 x7 x10) h) (fun x5 x7 h => S (en S [1, 1, 1, 1, 1, 1, 1, 1, 1, 1] (fn K)) (f26 x5 x7) h) x5 x7 x10 h K := by kernel_rfl
def Jk26 (x5 : Option Addr) (x7 : Int) (h : Heap) (K : KK) : Prop :=
  CallsH Tryz.prog 24 [(.pointer x5), (.int .i64 x7), (.agg #[(.int .i64 (5 : Int)), (.int .i64 (0 : Int)), (.int .i64 (0 : Int)), (.int .i64 (0 : Int)), (.int .i64 (0 : Int)), (.int .i64 (0 : Int)), (.int .u8 (0 : Int))])] h (fun v1 h2 => ldI .i64 (some v1) (fun n3 => bcase (n3 == (0 : Int)) (CallsH Tryz.prog 24 [(.pointer x5), (.int .i64 (4 : Int)), (.agg #[(.int .i64 (7 : Int)), (.int .i64 (0 : Int)), (.int .i64 (0 : Int)), (.int .i64 (0 : Int)), (.int .i64 (0 : Int)), (.int .i64 (0 : Int)), (.int .u8 (0 : Int))])] h2 (fun v4 h5 => ldI .i64 (some v4) (fun n6 => K (.bool (n6 == (222 : Int))) h5))) (K (.bool false) h2)))
theorem Ek26 (S : Stop) (x5 : Option Addr) (x7 : Int) (h : Heap) (K : KK) : (en S [1, 1, 1, 1, 1, 1, 1, 1, 1, 1] (fn K) (f26 x5 x7) h) = Jk26 x5 x7 h K := by kernel_rfl
def wk26 (x5 : Option Addr) (x7 : Int) (h : Heap) (K : KK) : Prop :=
  Jk26 x5 x7 h K
theorem ek26 (K : KK) (x5 : Option Addr) (x7 : Int) (h : Heap) : (en S0 [1, 1, 1, 1, 1, 1, 1, 1, 1, 1] (fn K) (f26 x5 x7) h) = wk26 x5 x7 h K := (Ek26 S0 x5 x7 h K).trans (rfl)
def wL21 : Nat → (Option Addr) → Int → Int → Heap → KK → Prop
  | 0, _, _, _, _, _ => False
  | n + 1, x5, x7, x10, h, K => JL21 (fun x5 x7 x10 h => wL21 n x5 x7 x10 h K) (fun x5 x7 h => wk26 x5 x7 h K) x5 x7 x10 h K
theorem eL21 (K : KK) : ∀ (n : Nat) (x5 : Option Addr) (x7 x10 : Int) (h : Heap), (ln S0 [1, 1, 1, 1, 1, 1, 1, 1, 1, 0, 1, 0, 0] (c7 S0 K) n (f21 x5 x7 x10) h) = wL21 n x5 x7 x10 h K
  | 0, _, _, _, _ => rfl
  | n + 1, x5, x7, x10, h => (EL21 S0 n x5 x7 x10 h K).trans (cg2 (fun q0 q1 => JL21 q0 q1 x5 x7 x10 h K) (by funext x5 x7 x10 h; exact (fun x5 x7 x10 h => eL21 K n x5 x7 x10 h) x5 x7 x10 h) (by funext x5 x7 h; exact ek26 K x5 x7 h))
def wk21 (x5 : Option Addr) (x7 x10 : Int) (h : Heap) (K : KK) : Prop :=
  Jk21 (fun x5 x7 x10 h => ∃ m, wL21 m x5 x7 x10 h K) x5 x7 x10 h K
theorem ek21 (K : KK) (x5 : Option Addr) (x7 x10 : Int) (h : Heap) : (en S0 [1, 1, 1, 1, 1, 1, 1, 1, 1, 0, 1] (c6 S0 K) (f21 x5 x7 x10) h) = wk21 x5 x7 x10 h K := (Ek21 S0 x5 x7 x10 h K).trans (cg1 (fun q0 => Jk21 q0 x5 x7 x10 h K) (by funext x5 x7 x10 h; exact ex_congr fun m => eL21 K m x5 x7 x10 h))
def wk18 (x5 : Option Addr) (x7 : Int) (h : Heap) (K : KK) : Prop :=
  Jk18 (fun x5 x7 x10 h => wk21 x5 x7 x10 h K) x5 x7 h K
theorem ek18 (K : KK) (x5 : Option Addr) (x7 : Int) (h : Heap) : (en S0 [1, 1, 1, 1, 1, 1, 1, 1] (fn K) (f18 x5 x7) h) = wk18 x5 x7 h K := (Ek18 S0 x5 x7 h K).trans (cg1 (fun q0 => Jk18 q0 x5 x7 h K) (by funext x5 x7 x10 h; exact ek21 K x5 x7 x10 h))
def wL15 : Nat → Int → (Option Addr) → Int → Int → Heap → KK → Prop
  | 0, _, _, _, _, _, _ => False
  | n + 1, x0, x5, x7, x9, h, K => JL15 (fun x0 x5 x7 x9 h => wL15 n x0 x5 x7 x9 h K) (fun x5 x7 h => wk18 x5 x7 h K) x0 x5 x7 x9 h K
theorem eL15 (K : KK) : ∀ (n : Nat) (x0 : Int) (x5 : Option Addr) (x7 x9 : Int) (h : Heap), (ln S0 [1, 1, 1, 1, 1, 1, 1, 0, 1, 0, 0] (c4 S0 K) n (f15 x0 x5 x7 x9) h) = wL15 n x0 x5 x7 x9 h K
  | 0, _, _, _, _, _ => rfl
  | n + 1, x0, x5, x7, x9, h => (EL15 S0 n x0 x5 x7 x9 h K).trans (cg2 (fun q0 q1 => JL15 q0 q1 x0 x5 x7 x9 h K) (by funext x0 x5 x7 x9 h; exact (fun x0 x5 x7 x9 h => eL15 K n x0 x5 x7 x9 h) x0 x5 x7 x9 h) (by funext x5 x7 h; exact ek18 K x5 x7 h))
def wk15 (x0 : Int) (x5 : Option Addr) (x7 x9 : Int) (h : Heap) (K : KK) : Prop :=
  Jk15 (fun x0 x5 x7 x9 h => ∃ m, wL15 m x0 x5 x7 x9 h K) x0 x5 x7 x9 h K
theorem ek15 (K : KK) (x0 : Int) (x5 : Option Addr) (x7 x9 : Int) (h : Heap) : (en S0 [1, 1, 1, 1, 1, 1, 1, 0, 1] (c3 S0 K) (f15 x0 x5 x7 x9) h) = wk15 x0 x5 x7 x9 h K := (Ek15 S0 x0 x5 x7 x9 h K).trans (cg1 (fun q0 => Jk15 q0 x0 x5 x7 x9 h K) (by funext x0 x5 x7 x9 h; exact ex_congr fun m => eL15 K m x0 x5 x7 x9 h))
def wk14 (x0 : Int) (x5 : Option Addr) (x7 : Int) (h : Heap) (K : KK) : Prop :=
  Jk14 (fun x0 x5 x7 x9 h => wk15 x0 x5 x7 x9 h K) x0 x5 x7 h K
theorem ek14 (K : KK) (x0 : Int) (x5 : Option Addr) (x7 : Int) (h : Heap) : (en S0 [1, 1, 1, 1, 1, 1, 1] (fn K) (f14 x0 x5 x7) h) = wk14 x0 x5 x7 h K := (Ek14 S0 x0 x5 x7 h K).trans (cg1 (fun q0 => Jk14 q0 x0 x5 x7 h K) (by funext x0 x5 x7 x9 h; exact ek15 K x0 x5 x7 x9 h))
def wL10 : Nat → Int → (Option Addr) → Int → Int → Heap → KK → Prop
  | 0, _, _, _, _, _, _ => False
  | n + 1, x0, x5, x7, x8, h, K => JL10 (fun x0 x5 x7 x8 h => wL10 n x0 x5 x7 x8 h K) (fun x0 x5 x7 h => wk14 x0 x5 x7 h K) x0 x5 x7 x8 h K
theorem eL10 (K : KK) : ∀ (n : Nat) (x0 : Int) (x5 : Option Addr) (x7 x8 : Int) (h : Heap), (ln S0 [1, 1, 1, 1, 1, 1, 0, 1, 0, 0] (c1 S0 K) n (f10 x0 x5 x7 x8) h) = wL10 n x0 x5 x7 x8 h K
  | 0, _, _, _, _, _ => rfl
  | n + 1, x0, x5, x7, x8, h => (EL10 S0 n x0 x5 x7 x8 h K).trans (cg2 (fun q0 q1 => JL10 q0 q1 x0 x5 x7 x8 h K) (by funext x0 x5 x7 x8 h; exact (fun x0 x5 x7 x8 h => eL10 K n x0 x5 x7 x8 h) x0 x5 x7 x8 h) (by funext x0 x5 x7 h; exact ek14 K x0 x5 x7 h))
def wk10 (x0 : Int) (x5 : Option Addr) (x7 x8 : Int) (h : Heap) (K : KK) : Prop :=
  Jk10 (fun x0 x5 x7 x8 h => ∃ m, wL10 m x0 x5 x7 x8 h K) x0 x5 x7 x8 h K
theorem ek10 (K : KK) (x0 : Int) (x5 : Option Addr) (x7 x8 : Int) (h : Heap) : (en S0 [1, 1, 1, 1, 1, 1, 0, 1] (c0 S0 K) (f10 x0 x5 x7 x8) h) = wk10 x0 x5 x7 x8 h K := (Ek10 S0 x0 x5 x7 x8 h K).trans (cg1 (fun q0 => Jk10 q0 x0 x5 x7 x8 h K) (by funext x0 x5 x7 x8 h; exact ex_congr fun m => eL10 K m x0 x5 x7 x8 h))
def w (x0 x1 : Int) (h : Heap) (K : KK) : Prop :=
  J0 (fun x0 x5 x7 x8 h => wk10 x0 x5 x7 x8 h K) x0 x1 h K
theorem e0 (K : KK) (x0 x1 : Int) (h : Heap) : (E Tryz.prog X T S0 body (fin Tryz.prog Tryz.f9.results.toList K) (args0 0 [(.int .u8 x0), (.int .u8 x1)]) h) = w x0 x1 h K := (E0 S0 x0 x1 h K).trans (cg1 (fun q0 => J0 q0 x0 x1 h K) (by funext x0 x5 x7 x8 h; exact ek10 K x0 x5 x7 x8 h))
theorem hb : Tryz.f9.body = some body := by kernel_rfl
theorem ok : okCode T Tryz.f9.ntmps body = true := by kernel_rfl
theorem spec (x0 : Int) (x1 : Int) (h : Heap) (K : KK) (H : w x0 x1 h K) : CallsH Tryz.prog 9 [(.int .u8 x0), (.int .u8 x1)] h K :=
  calls_of_E (T := T) Xok mix Tryz.func9 hb ok rfl (by rw [e0]; exact H)
end F9
-- spinney/spinneylaw22.known
namespace F40
def T : Hint := ⟨[], []⟩
noncomputable def body : Code := (Tryz.f40.body).getD .skip
def J0 (h : Heap) (K : KK) : Prop :=
  CallsH Tryz.prog 18 [(.int .i64 (4 : Int)), (.int .i64 (16400 : Int)), (.int .i64 (2 : Int))] h (fun v1 h2 => (∃ p3 : Option Addr, ∃ n4 : Int, v1 = (.tuple #[(.pointer p3), (.int .i64 n4)]) ∧ CallsH Tryz.prog 18 [(.int .i64 (9 : Int)), (.int .i64 (100 : Int)), (.int .i64 (2 : Int))] h2 (fun v5 h6 => (∃ p7 : Option Addr, ∃ n8 : Int, v5 = (.tuple #[(.pointer p7), (.int .i64 n8)]) ∧ bcase (n4 != (0 : Int)) (K (.bool false) h6) (bcase (Option.isNone p3) (K (.bool false) h6) (bcase (n8 != (40 : Int)) (K (.bool false) h6) (CallsH Tryz.prog 27 [(.pointer p3)] h6 (fun v9 h10 => ldI .i64 (some v9) (fun n11 => bcase (n11 != (2 : Int)) (K (.bool false) h10) (CallsH Tryz.prog 24 [(.pointer p3), (.int .i64 (0 : Int)), (.agg #[(.int .i64 (1 : Int)), (.int .i64 (0 : Int)), (.int .i64 (1 : Int)), (.int .i64 (0 : Int)), (.int .i64 (0 : Int)), (.int .i64 (0 : Int)), (.int .u8 (2 : Int))])] h10 (fun v12 h13 => ldI .i64 (some v12) (fun n14 => CallsH Tryz.prog 24 [(.pointer p3), (.int .i64 (0 : Int)), (.agg #[(.int .i64 (6 : Int)), (.int .i64 (0 : Int)), (.int .i64 (0 : Int)), (.int .i64 (0 : Int)), (.int .i64 (0 : Int)), (.int .i64 (0 : Int)), (.int .u8 (0 : Int))])] h13 (fun v15 h16 => ldI .i64 (some v15) (fun n17 => CallsH Tryz.prog 24 [(.pointer p3), (.int .i64 (1 : Int)), (.agg #[(.int .i64 (4 : Int)), (.int .i64 (0 : Int)), (.int .i64 (0 : Int)), (.int .i64 (0 : Int)), (.int .i64 (0 : Int)), (.int .i64 (0 : Int)), (.int .u8 (0 : Int))])] h16 (fun v18 h19 => ldI .i64 (some v18) (fun n20 => bcase (n14 != (0 : Int)) (K (.bool false) h19) (bcase (n17 != (220 : Int)) (K (.bool false) h19) (bcase (n20 != (221 : Int)) (K (.bool false) h19) (CallsH Tryz.prog 56 [(.pointer p3), (.int .i64 (0 : Int))] h19 (fun v21 h22 => ldB (some v21) (fun b23 => bcase (!b23) (K (.bool false) h22) (CallsH Tryz.prog 42 [(.pointer p3)] h22 (fun v24 h25 => ldB (some v24) (fun b26 => bcase (!b26) (K (.bool false) h25) (CallsH Tryz.prog 43 [(.pointer p3), (.int .i64 (0 : Int))] h25 (fun v27 h28 => (∃ n29 : Int, ∃ n30 : Int, ∃ b31 : Bool, v27 = (.tuple #[(.agg #[(.int .i64 n29), (.int .u64 n30)]), (.bool b31)]) ∧ newK h28 (.cells #[(.int .i64 (0 : Int)), (.int .u64 (0 : Int))] 76) (fun b32 h33 => stK h33 (Addr.add (Addr.mk b32 0 none) 0) (.int .i64 n29) (fun h34 => stK h34 (Addr.add (Addr.mk b32 0 none) 1) (.int .u64 n30) (fun h35 => CallsH Tryz.prog 28 [(.pointer p3), (.int .i64 (0 : Int)), (.int .i64 (1 : Int))] h35 (fun v36 h37 => (∃ n38 : Int, ∃ b39 : Bool, v36 = (.tuple #[(.int .u32 n38), (.bool b39)]) ∧ bcase b31 (ldI .i64 (rd h37 (Addr.add (Addr.mk b32 0 none) 0)) (fun n40 => bcase (n40 == (0 : Int)) (bcase b39 (CallsH Tryz.prog 23 [(.pointer p3)] h37 (fun v41 h42 => ldP (some v41) (fun p43 => CallsH Tryz.prog 33 [(.int .i64 (2 : Int))] h42 (fun v44 h45 => (∃ n46 : Int, ∃ n47 : Int, ∃ n48 : Int, ∃ n49 : Int, v44 = (.agg #[(.int .u64 n46), (.int .u64 n47), (.int .u64 n48), (.int .u64 n49)]) ∧ CallsH Tryz.prog 58 [(.pointer p43), (.int .u32 n38), (.agg #[(.int .u64 n46), (.int .u64 n47), (.int .u64 n48), (.int .u64 n49)])] h45 (fun v50 h51 => ldB (some v50) (fun b52 => bcase b52 (CallsH Tryz.prog 54 [(.pointer p3)] h51 (fun v53 h54 => ldI .i64 (some v53) (fun n55 => K (.bool (n55 == (1 : Int))) h54))) (K (.bool false) h51)))))))) (K (.bool false) h37)) (K (.bool false) h37))) (K (.bool false) h37)))))))))))))))))))))))))))))))))
theorem E0 (S : Stop) (h : Heap) (K : KK) : (E Tryz.prog X T S body (fin Tryz.prog Tryz.f40.results.toList K) (args0 0 []) h) = J0 h K := by kernel_rfl
def w (h : Heap) (K : KK) : Prop :=
  J0 h K
theorem e0 (K : KK) (h : Heap) : (E Tryz.prog X T S0 body (fin Tryz.prog Tryz.f40.results.toList K) (args0 0 []) h) = w h K := (E0 S0 h K).trans (rfl)
theorem hb : Tryz.f40.body = some body := by kernel_rfl
theorem ok : okCode T Tryz.f40.ntmps body = true := by kernel_rfl
theorem spec (h : Heap) (K : KK) (H : w h K) : CallsH Tryz.prog 40 [] h K :=
  calls_of_E (T := T) Xok mix Tryz.func40 hb ok rfl (by rw [e0]; exact H)
end F40
end Go.Proofs.YtnofenejoebkhaaGreat.Ev
/- SESSIONS (package engine): what a call does at once, as one step; rounds of fair picks (spinneylaw22.fair), over an invariant. Conditions: the world stands (EWd). -/
namespace Go.Proofs.YtnofenejoebkhaaGreat.Ev
open Go
theorem refu2_zero {n : Nat} {c : Cal} (h : refu2 n c = 0) : (c.kind = 3 → takesZ c.op ≠ 0) ∧ (c.kind = 1 → c.mask < n) ∧ (c.kind = 3 → c.op = 8 → c.mask < n) ∧ (c.kind = 3 → (c.op = 6 ∨ c.op = 7) → c.mask / 2 ^ n = 0) := by
  unfold refu2 at h
  split at h
  · cases h
  · rename_i a
    split at h
    · cases h
    · rename_i b
      split at h
      · cases h
      · rename_i d
        refine ⟨fun k t => a ⟨k, t⟩, fun k => ?_, fun k o => ?_, fun k o => ?_⟩
        · exact Nat.lt_of_not_le fun q => b ⟨.inl k, q⟩
        · exact Nat.lt_of_not_le fun q => b ⟨.inr ⟨k, o⟩, q⟩
        · exact Classical.byContradiction fun q => d ⟨k, o, q⟩
theorem refu_zero {n : Nat} {x : Ses} {c : Cal} (h : refu n x c = 0) : (1 ≤ c.kind ∧ c.kind ≤ 8) ∧ (wrK c.kind → isR c.dst) ∧ rdsOk x c ∧ refu2 n c = 0 := by
  unfold refu at h
  split at h
  · cases h
  · rename_i a
    split at h
    · cases h
    · rename_i b
      split at h
      · cases h
      · rename_i d
        exact ⟨Classical.not_not.1 a, fun w => Classical.byContradiction fun q => b ⟨w, q⟩, Classical.not_not.1 d, h⟩
section
variable {h h' : Heap} {e : Nat} {G G' : EG} {K : Value → Heap → Prop} {C : Nat → Nat → Prop}
/-- a register emptied, the world behind it -/
def clrG (G : EG) (i d : Nat) (f' : Int → Int) : EG := { G with E := G.E.put i (clrS (G.E.ses i) d), M := G.M + 1, f := f' }
theorem e_clears {i d : Nat} (W : EWd h e G) (hi : i < 4) (hd : d < 6) (ed : (G.E.ses i).cal.dst = (d : Int)) (hM : G.M ≤ LB)
    (hK : ∀ h' f', EWd h' e (clrG G i d f') → Eside e G h (clrG G i d f') h' → K (.tuple #[]) h') : CallsH Tryz.prog 166 [ptrV e, sesP e i] h K := by
  refine clears166 W.I W.R W.de.2.2 hi hd ed hM fun h' I' R' O' => ?_
  have C' := cnr_clr W.C hi hd
  have hS : ∀ b ∈ e :: G.B, b ∉ G.L ∧ ¬ PBl G.E.p G.P b := fun b hb => by
    rcases List.mem_cons.1 hb with q | q
    · subst q; exact ⟨W.de.1, W.de.2.1⟩
    · exact W.dB b q
  refine hK h' _ ⟨W.W.only O' (fun b hb => (hS b hb).1) (fun b hb => (hS b hb).2), R', I', C', W.de, W.dB, fun k hk r hr ht => ?_, fun k hk r hr ht => ?_, fun k hk => ?_, W.po⟩ (Eside.some O' (fun b hb => ?_) fun b hb => hb)
  · have ht : ((G.E.put i (clrS (G.E.ses i) d)).ses k).there r = true := ht
    show isN G.N (((G.E.put i (clrS (G.E.ses i) d)).ses k).hnd r)
    rw [ses_put] at ht ⊢
    by_cases q : k = i
    · rw [if_pos q] at ht ⊢
      by_cases w : r = d
      · subst w
        rw [show (clrS (G.E.ses i) r).there r = false from upN_eq] at ht
        cases ht
      · rw [show (clrS (G.E.ses i) d).hnd r = (G.E.ses i).hnd r from upN_ne w]
        rw [show (clrS (G.E.ses i) d).there r = (G.E.ses i).there r from upN_ne w] at ht
        exact W.rg i hi r hr ht
    · rw [if_neg q] at ht ⊢
      exact W.rg k hk r hr ht
  · have ht : ((G.E.put i (clrS (G.E.ses i) d)).ses k).there r = false := ht
    show ((G.E.put i (clrS (G.E.ses i) d)).ses k).hnd r = 0
    rw [ses_put] at ht ⊢
    by_cases q : k = i
    · rw [if_pos q] at ht ⊢
      by_cases w : r = d
      · subst w
        exact upN_eq
      · rw [show (clrS (G.E.ses i) d).hnd r = (G.E.ses i).hnd r from upN_ne w]
        rw [show (clrS (G.E.ses i) d).there r = (G.E.ses i).there r from upN_ne w] at ht
        exact W.r0 i hi r hr ht
    · rw [if_neg q] at ht ⊢
      exact W.r0 k hk r hr ht
  · show ((G.E.put i (clrS (G.E.ses i) d)).ses k).cal.mask < 256
    rw [ses_put]
    by_cases q : k = i
    · rw [if_pos q]; exact W.mq i hi
    · rw [if_neg q]; exact W.mq k hk
  · rcases List.mem_cons.1 hb with q | q
    · subst q; exact mem_ebl.2 (.inl rfl)
    · exact mem_ebl.2 (.inr (.inr (.inl q)))
/-- a variable, a constant, a register emptied: done at once -/
def LayR (i : Nat) (G G' : EG) : Prop := ∃ d : Nat, d < 6 ∧ (G.E.ses i).cal.dst = (d : Int) ∧
  (((G.E.ses i).cal.kind = 1 ∧ ∃ G1 er, VarR i d G G1 er ∧ G' = ansG G1 i er 0) ∨
   ((G.E.ses i).cal.kind = 2 ∧ ∃ f', G' = ansG (setG G i d (min 1 (G.E.ses i).cal.mask) f') i 0 0) ∨
   ((G.E.ses i).cal.kind = 6 ∧ ∃ f', G' = ansG (clrG G i d f') i 0 0))
theorem VarR.ans {i d : Nat} {er : Int} (R : VarR i d G G' er) : G'.E.ans = G.E.ans := by
  obtain ⟨G1, N2, L2, r, e', f', C1, -, -, e⟩ := R
  subst e
  have : G1.E.ans = G.E.ans := by rw [C1.E]
  split
  · exact this
  · exact this
theorem e_lays (mr : MRspec C) (W : EWd h e G) {i : Nat} (hi : i < 4) (hC : C (cntN G.N) G.room) (hM : G.M + 2000 ≤ LB / 1000) (ha : G.E.ans < 1000000000) (hk : (G.E.ses i).cal.kind = 1 ∨ (G.E.ses i).cal.kind = 2 ∨ (G.E.ses i).cal.kind = 6) (hr : refu G.n (G.E.ses i) (G.E.ses i).cal = 0)
    (hK : ∀ h' G', EWd h' e G' → Eside e G h G' h' → LayR i G G' → K (.bool true) h') : CallsH Tryz.prog 123 [ptrV e, sesP e i] h K := by
  have hLB : LB = 140737488355328 := rfl
  obtain ⟨-, z2, -, z4⟩ := refu_zero hr
  obtain ⟨-, z5, -, -⟩ := refu2_zero z4
  have hd := z2 (by unfold wrK; omega)
  obtain ⟨d, ed⟩ : ∃ d : Nat, (G.E.ses i).cal.dst = (d : Int) := ⟨(G.E.ses i).cal.dst.toNat, by unfold isR at hd; omega⟩
  have d6 : d < 6 := by unfold isR at hd; omega
  refine F123.spec _ _ h K ?_
  unfold F123.w F123.J0
  simp only [add_mk, Nat.zero_add]
  refine ldI_of (W.I.kind hi (by omega)) ?_
  rcases hk with k | k | k
  · rw [k, show ((1 : Int) == 1) = true from rfl, bcase_true]
    refine e_variable mr W hi hC hM (z5 k) d6 ed fun h1 G1 er W1 S1 V => ldI_of rfl ?_
    unfold F123.wk8 F123.Jk8
    refine e_answers (n := 0) W1 hi (by rw [V.ans]; exact ha) fun h2 W2 S2 => ⟨rfl, ?_⟩
    exact hK h2 _ W2 (S1.trans S2) ⟨d, d6, ed, .inl ⟨k, G1, er, V, rfl⟩⟩
  · rw [k, show ((2 : Int) == 1) = false from rfl, bcase_false, show ((2 : Int) == 6) = false from rfl, bcase_false]
    have mq := W.mq i hi
    refine ldI_of (W.I.mask hi (by omega)) ?_
    have em : (IntKind.wrap .u32 (if (1 : Int) < ((G.E.ses i).cal.mask : Int) then (1 : Int) else ((G.E.ses i).cal.mask : Int))) = ((min 1 (G.E.ses i).cal.mask : Nat) : Int) := by
      by_cases q : 1 < (G.E.ses i).cal.mask
      · rw [if_pos (by omega), show min 1 (G.E.ses i).cal.mask = 1 by omega]; rfl
      · rw [if_neg (by omega), show min 1 (G.E.ses i).cal.mask = (G.E.ses i).cal.mask by omega]
        exact wrap32 (by omega)
    rw [em]
    refine e_sets W hi d6 ed (.inl (by omega)) (by omega) fun h1 f1 W1 S1 => ⟨rfl, ?_⟩
    unfold F123.wk8 F123.Jk8
    refine e_answers (n := 0) W1 hi ha fun h2 W2 S2 => ⟨rfl, ?_⟩
    exact hK h2 _ W2 (S1.trans S2) ⟨d, d6, ed, .inr (.inl ⟨k, f1, rfl⟩)⟩
  · rw [k, show ((6 : Int) == 1) = false from rfl, bcase_false, show ((6 : Int) == 6) = true from rfl, bcase_true]
    refine e_clears W hi d6 ed (by omega) fun h1 f1 W1 S1 => ⟨rfl, ?_⟩
    unfold F123.wk8 F123.Jk8
    refine e_answers (n := 0) W1 hi ha fun h2 W2 S2 => ⟨rfl, ?_⟩
    exact hK h2 _ W2 (S1.trans S2) ⟨d, d6, ed, .inr (.inr ⟨k, f1, rfl⟩)⟩
theorem pending99 (W : EWd h e G) (hT : anyP G.E → K (.bool true) h) (hF : ¬ anyP G.E → K (.bool false) h) : CallsH Tryz.prog 99 [ptrV e] h K := by
  refine F99.spec _ h K ?_
  unfold F99.w F99.J0 F99.wk2 F99.Jk2
  have main : ∀ (d k : Nat), d + k = 4 → (∀ j, j < k → (G.E.ses j).pend = false) → F99.wL2 (d + 1) ⟨e, 0, none⟩ (k : Int) h K := by
    intro d
    induction d with
    | zero =>
      intro k hk hb
      unfold F99.wL2 F99.JL2
      rw [decide_eq_false (by omega), bcase_false]
      refine hF fun ⟨j, hj, hp⟩ => ?_
      rw [hb j (by omega)] at hp
      cases hp
    | succ d ih =>
      intro k hk hb
      unfold F99.wL2 F99.JL2
      rw [decide_eq_true (by omega), bcase_true]
      refine pending56 W.I (fun q => by omega) fun k' hk' ek => ldB_of rfl (bcase_of (fun p => ?_) fun p => ?_)
      · exact hT ⟨k', hk', p⟩
      · rw [wr_s (by omega)]
        refine ih (k + 1) (by omega) fun j hj => ?_
        by_cases q : j = k
        · rw [q, show k = k' by omega]; exact p
        · exact hb j (by omega)
  exact ⟨_, main 4 0 (by omega) fun j hj => by omega⟩
/-- rounds of fair picks: an invariant with a measure that falls each round -/
theorem fair42 {m : Nat} (Inv : Nat → Heap → EG → Prop) (J : Nat → Nat → Heap → EG → Prop) (nw : Nat) (hnw : nw ≤ 4) (h0 : Inv m h G) (hm : m < 1048576)
    (hW : ∀ {m h1 G1}, Inv m h1 G1 → EWd h1 e G1) (hJ : ∀ {m w h1 G1}, J m w h1 G1 → EWd h1 e G1 ∧ G1.P.ws.length = nw)
    (hS : ∀ {m h1 G1}, Inv m h1 G1 → anyP G1.E → J m 0 h1 G1)
    (hP : ∀ {m w h1 G1} {Q : Value → Heap → Prop} {draw : Int}, w < nw → J m w h1 G1 → (∀ b h2 G2, J m (w + 1) h2 G2 → Q (.bool b) h2) → CallsH Tryz.prog 26 [ptrV e, .int .i64 (w : Int), .int .i64 draw] h1 Q)
    (hE : ∀ {m h1 G1}, J m nw h1 G1 → ∃ m', m' < m ∧ Inv m' h1 G1)
    (hK : ∀ m' h1 G1, m' ≤ m → Inv m' h1 G1 → ¬ anyP G1.E → K (.bool true) h1) : CallsH Tryz.prog 42 [ptrV e] h K := by
  refine F42.spec _ h K ?_
  unfold F42.w F42.J0 F42.wk2 F42.Jk2
  have main : ∀ (d i m' : Nat) (xi : Int) (h1 : Heap) (G1 : EG), xi = (i : Int) → d + i = m + 1 → m' + i ≤ m → Inv m' h1 G1 → F42.wL2 (d + 1) ⟨e, 0, none⟩ xi h1 K := by
    intro d
    induction d with
    | zero => intro i m' xi h1 G1 exi hi hm'; omega
    | succ d ih =>
      intro i m' xi h1 G1 exi hi hm' I
      unfold F42.wL2 F42.JL2
      rw [decide_eq_true (by omega), bcase_true]
      refine pending99 (hW I) (fun a => ldB_of rfl ?_) fun a => ldB_of rfl ?_
      · rw [bcase_true]
        unfold F42.wk5 F42.Jk5
        have inner : ∀ (d2 w : Nat) (h2 : Heap) (G2 : EG), d2 + w = nw → J m' w h2 G2 → F42.wL5 (fun x0 x3 h => F42.wL2 (d + 1) x0 x3 h K) (d2 + 1) ⟨e, 0, none⟩ xi (w : Int) h2 K := by
          intro d2
          induction d2 with
          | zero =>
            intro w h2 G2 hw I2
            unfold F42.wL5 F42.JL5
            obtain ⟨W2, wl⟩ := hJ I2
            refine workers27 W2 (ldI_of rfl ?_)
            rw [decide_eq_false (by omega), bcase_false]
            have ew : w = nw := by omega
            subst ew
            obtain ⟨m2, lt, I3⟩ := hE I2
            exact ih (i + 1) m2 _ h2 G2 (by rw [exi, wrap_i64 (by omega) (by omega)]; omega) (by omega) (by omega) I3
          | succ d2 ih2 =>
            intro w h2 G2 hw I2
            unfold F42.wL5 F42.JL5
            obtain ⟨W2, wl⟩ := hJ I2
            refine workers27 W2 (ldI_of rfl ?_)
            rw [decide_eq_true (by omega), bcase_true]
            refine hP (by omega) I2 fun b h3 G3 I3 => ldB_of rfl ?_
            rw [wr_s (by omega)]
            exact ih2 (w + 1) h3 G3 (by omega) I3
        exact ⟨_, inner nw 0 h1 G1 (by omega) (hS I a)⟩
      · rw [bcase_false]
        unfold F42.wk8 F42.Jk8
        exact pending99 (hW I) (fun q => absurd q a) fun q => ldB_of rfl (hK m' h1 G1 (by omega) I a)
  exact ⟨_, main (m + 1) 0 m 0 h G rfl (by omega) (by omega) h0⟩
end
end Go.Proofs.YtnofenejoebkhaaGreat.Ev
/- SESSIONS (package engine): picks while no job is about: all calls that are pending are done by the first pick. Conditions: the world stands (EWd), the calls are of the kinds that need no job. -/
namespace Go.Proofs.YtnofenejoebkhaaGreat.Ev
open Go
/-- what a session is behind its call -/
def SesR (n : Nat) (fo : Nat → Nat) (N : List (Option Nd)) (x x' : Ses) : Prop := ∃ d : Nat, d < 6 ∧ x.cal.dst = (d : Int) ∧
  ((x.cal.kind = 1 ∧ ∃ v, x' = ansS (setS x d v) 0 0 ∧ ∀ y, sm n fo N v y = y.testBit x.cal.mask) ∨
   (x.cal.kind = 2 ∧ x' = ansS (setS x d (min 1 x.cal.mask)) 0 0) ∨ (x.cal.kind = 6 ∧ x' = ansS (clrS x d) 0 0))
theorem SesR.pend {n : Nat} {fo : Nat → Nat} {N : List (Option Nd)} {x x' : Ses} (R : SesR n fo N x x') : x'.pend = false := by
  obtain ⟨d, -, -, ⟨-, v, e, -⟩ | ⟨-, e⟩ | ⟨-, e⟩⟩ := R <;> subst e <;> rfl
theorem SesR.to {n : Nat} {fo : Nat → Nat} {N N' : List (Option Nd)} {x x' : Ses} (R : SesR n fo N x x') (h : ∀ r, r < 6 → x'.there r = true → ∀ y, sm n fo N' (x'.hnd r) y = sm n fo N (x'.hnd r) y) : SesR n fo N' x x' := by
  obtain ⟨d, d6, ed, ⟨k, v, e, s⟩ | ⟨k, e⟩ | ⟨k, e⟩⟩ := R
  · refine ⟨d, d6, ed, .inl ⟨k, v, e, fun y => ?_⟩⟩
    subst e
    have := h d d6 upN_eq y
    rw [show (ansS (setS x d v) 0 0).hnd d = v from upN_eq] at this
    rw [this, s]
  · exact ⟨d, d6, ed, .inr (.inl ⟨k, e⟩)⟩
  · exact ⟨d, d6, ed, .inr (.inr ⟨k, e⟩)⟩
def nPd (E : Eng) (i : Nat) : Nat := sumN (fun k => if (E.ses k).pend = true then 1 else 0) i
structure Ran (G0 : EG) (i : Nat) (G : EG) : Prop where
  s : G.E.s = G0.E.s ∧ G.E.p = G0.E.p ∧ G.E.r = G0.E.r
  n : G.n = G0.n
  fo : G.fo = G0.fo
  gg : G.gg = G0.gg
  room : G.room = G0.room
  off : G.off = G0.off
  ws : G.P.ws.length = G0.P.ws.length
  jobs : G.P.jobs = []
  last : G.P.last = G0.P.last
  cnt : cntN G.N ≤ cntN G0.N + i
  M : G0.M ≤ G.M ∧ G.M ≤ G0.M + 1002 * i + 1000
  ans : G.E.ans = G0.E.ans + nPd G0.E i
  lo : ∀ k, k < i → k < 4 → ((G0.E.ses k).pend = true → SesR G0.n G0.fo G.N (G0.E.ses k) (G.E.ses k)) ∧ ((G0.E.ses k).pend = false → G.E.ses k = G0.E.ses k)
  hi : ∀ k, i ≤ k → G.E.ses k = G0.E.ses k
  old : ∀ k, k < 4 → ∀ r, r < 6 → (G0.E.ses k).there r = true → (G.E.ses k).there r = true → (G.E.ses k).hnd r = (G0.E.ses k).hnd r → ∀ y, sm G0.n G0.fo G.N ((G0.E.ses k).hnd r) y = sm G0.n G0.fo G0.N ((G0.E.ses k).hnd r) y
/-- no job, calls of the easy kinds, much room -/
structure Easy (G : EG) : Prop where
  jobs : G.P.jobs = []
  kind : ∀ i, i < 4 → (G.E.ses i).pend = true → ((G.E.ses i).cal.kind = 1 ∨ (G.E.ses i).cal.kind = 2 ∨ (G.E.ses i).cal.kind = 6) ∧ refu G.n (G.E.ses i) (G.E.ses i).cal = 0
  room : cntN G.N + 5 < G.room
  M : G.M + 20000 ≤ LB / 1000
  ans : G.E.ans + 10 < 1000000000
theorem set_ans_ses {G : EG} {i d v n : Nat} {er : Int} {f' : Int → Int} : (ansG (setG G i d v f') i er n).E.ses = upN G.E.ses i (ansS (setS (G.E.ses i) d v) er n) := by
  show upN (upN G.E.ses i _) i (ansS (upN G.E.ses i (setS (G.E.ses i) d v) i) er n) = _
  rw [upN_upN, upN_eq]
theorem clr_ans_ses {G : EG} {i d n : Nat} {er : Int} {f' : Int → Int} : (ansG (clrG G i d f') i er n).E.ses = upN G.E.ses i (ansS (clrS (G.E.ses i) d) er n) := by
  show upN (upN G.E.ses i _) i (ansS (upN G.E.ses i (clrS (G.E.ses i) d) i) er n) = _
  rw [upN_upN, upN_eq]
section
variable {h h' : Heap} {e i : Nat} {G G0 G' : EG} {K : Value → Heap → Prop}
theorem Ran.refl (hj : G0.P.jobs = []) : Ran G0 0 G0 := ⟨⟨rfl, rfl, rfl⟩, rfl, rfl, rfl, rfl, rfl, rfl, hj, rfl, Nat.le_refl _, ⟨Nat.le_refl _, by omega⟩, rfl, fun k hk => by omega, fun k hk => rfl, fun k hk r hr ht ht' he y => rfl⟩
theorem Ran.mono (R : Ran G0 i G) {N' : List (Option Nd)} (hs : ∀ v, (∃ k r, k < 4 ∧ r < 6 ∧ (G.E.ses k).there r = true ∧ v = (G.E.ses k).hnd r) → ∀ y, sm G0.n G0.fo N' v y = sm G0.n G0.fo G.N v y) :
    (∀ k, k < i → k < 4 → ((G0.E.ses k).pend = true → SesR G0.n G0.fo N' (G0.E.ses k) (G.E.ses k)) ∧ ((G0.E.ses k).pend = false → G.E.ses k = G0.E.ses k)) ∧
    (∀ k, k < 4 → ∀ r, r < 6 → (G0.E.ses k).there r = true → (G.E.ses k).there r = true → (G.E.ses k).hnd r = (G0.E.ses k).hnd r → ∀ y, sm G0.n G0.fo N' ((G0.E.ses k).hnd r) y = sm G0.n G0.fo G0.N ((G0.E.ses k).hnd r) y) :=
  ⟨fun k hk h4 => ⟨fun p => ((R.lo k hk h4).1 p).to fun r hr ht => hs _ ⟨k, r, h4, hr, ht, rfl⟩, (R.lo k hk h4).2⟩, fun k hk r hr ht ht' he y => by
    rw [← he, hs _ ⟨k, r, hk, hr, ht', rfl⟩ y, he]
    exact R.old k hk r hr ht ht' he y⟩
theorem Ran.lay (Ea : Easy G0) (R : Ran G0 i G) (W : EWd h e G) (W' : EWd h' e G') (hi : i < 4) (hp : (G.E.ses i).pend = true) (L : LayR i G G') : Ran G0 (i + 1) G' := by
  have ei := R.hi i (Nat.le_refl _)
  have pi : (G0.E.ses i).pend = true := by rw [← ei]; exact hp
  obtain ⟨kd, rf⟩ := Ea.kind i hi pi
  have nP : nPd G0.E (i + 1) = nPd G0.E i + 1 := by unfold nPd; show sumN _ i + (if _ then 1 else 0) = _; rw [if_pos pi]
  obtain ⟨d, d6, ed, L⟩ := L
  -- what turns: the session, the nodes
  have fin : ∀ (N' : List (Option Nd)) (x' : Ses), G'.E.ses = upN G.E.ses i x' → G'.N = N' → (∀ v, (∃ k r, k < 4 ∧ r < 6 ∧ (G.E.ses k).there r = true ∧ (G'.E.ses k).there r = true ∧ (G'.E.ses k).hnd r = (G.E.ses k).hnd r ∧ v = (G.E.ses k).hnd r) → ∀ y, sm G0.n G0.fo N' v y = sm G0.n G0.fo G.N v y) → SesR G0.n G0.fo N' (G0.E.ses i) x' →
      (G'.E.s = G.E.s ∧ G'.E.p = G.E.p ∧ G'.E.r = G.E.r) → G'.n = G.n → G'.fo = G.fo → G'.gg = G.gg → G'.room = G.room → G'.off = G.off → G'.P = G.P → cntN N' ≤ cntN G.N + 1 → (G.M ≤ G'.M ∧ G'.M ≤ G.M + 1002) → G'.E.ans = G.E.ans + 1 → Ran G0 (i + 1) G' := by
    intro N' x' es eN hs sr e1 e2 e3 e4 e5 e6 e7 e8 e9 e10
    have sk : ∀ k, G'.E.ses k = if k = i then x' else G.E.ses k := fun k => by rw [es]; rfl
    refine ⟨⟨e1.1.trans R.s.1, e1.2.1.trans R.s.2.1, e1.2.2.trans R.s.2.2⟩, e2.trans R.n, e3.trans R.fo, e4.trans R.gg, e5.trans R.room, e6.trans R.off, by rw [e7]; exact R.ws, by rw [e7]; exact R.jobs, by rw [e7]; exact R.last, ?_, ⟨Nat.le_trans R.M.1 e9.1, by have := R.M.2; omega⟩, by rw [e10, nP, R.ans]; omega, fun k hk h4 => ?_, fun k hk => ?_, fun k hk r hr ht ht' he y => ?_⟩
    · have := R.cnt; rw [eN]; omega
    · by_cases q : k = i
      · subst q
        rw [sk, if_pos rfl, eN]
        exact ⟨fun _ => sr, fun p => by rw [p] at pi; cases pi⟩
      · rw [sk, if_neg q, eN]
        have lk := R.lo k (by omega) h4
        refine ⟨fun p => (lk.1 p).to fun r hr ht => hs _ ⟨k, r, h4, hr, ht, ?_, ?_, rfl⟩, lk.2⟩
        · rw [sk, if_neg q]; exact ht
        · rw [sk, if_neg q]
    · rw [sk, if_neg (by omega)]
      exact R.hi k (by omega)
    · rw [eN]
      by_cases q : k = i
      · subst q
        have ht2 : (G.E.ses k).there r = true := by rw [ei]; exact ht
        have := hs _ ⟨k, r, hk, hr, ht2, ht', by rw [he, ei], rfl⟩ y
        rw [ei] at this
        rw [this]
        exact R.old k hk r hr ht ht2 (by rw [ei]) y
      · have ht2 : (G.E.ses k).there r = true := by rw [sk, if_neg q] at ht'; exact ht'
        have he2 : (G.E.ses k).hnd r = (G0.E.ses k).hnd r := by rw [sk, if_neg q] at he; exact he
        have := hs _ ⟨k, r, hk, hr, ht2, ht', by rw [he, he2], rfl⟩ y
        rw [he2] at this
        rw [this]
        exact R.old k hk r hr ht ht2 he2 y
  rcases L with ⟨k, G1, er, V, e⟩ | ⟨k, f', e⟩ | ⟨k, f', e⟩
  · obtain ⟨G2, N2, L2, v, er', f', C1, M, ee, e1⟩ := V
    obtain ⟨E2, he2, hfull⟩ := mk_ex M
    have er0 : er' = 0 := by
      rcases he2 with q | q
      · exact q
      · exfalso
        have h1 := (hfull q).1
        have h2 := C1.cnt
        have h3 := R.cnt
        have h4 := Ea.room
        rw [C1.room, R.room] at h1
        omega
    subst er0
    rw [if_pos rfl] at e1
    subst e1 ee e
    have mkn : (G.E.ses i).cal.mask < G2.n := by
      have z := (refu2_zero (refu_zero rf).2.2.2).2.1 (by rw [← ei]; exact k)
      rw [C1.n, R.n, ei]
      exact z
    have po := W.po
    rw [← C1.n, ← C1.fo, ← C1.gg] at po
    have pg := po.1 _ mkn
    have e0 : lvl G2.n G2.N 0 = G2.n := by unfold lvl; rw [if_pos (by omega)]
    have ok2 : NOk G2.n N2 := by
      have := W'.W.S.ok.1
      exact this
    have mn := mk_node (f := G2.fo) C1.ok ok2 (a := 0) (b := 1) (.inl (by omega)) (.inl (by omega)) (show _ < lvl G2.n G2.N 0 by rw [e0]; exact pg.1) M
    have n0 : G2.n = G0.n := C1.n.trans R.n
    have f0 : G2.fo = G0.fo := C1.fo.trans R.fo
    have hE : G2.E = G.E := C1.E
    have c2 := mk_cnt M
    have hc := C1.cnt
    have hM := C1.M
    have es : (ansG (setG (stoG G2 N2 L2) i d v f') i ((0 : Nat) : Int) 0).E.ses = upN G.E.ses i (ansS (setS (G.E.ses i) d v) 0 0) := by
      rw [← hE]
      exact set_ans_ses
    refine fin N2 _ es rfl (fun w ⟨k', r, h4, hr, ht, _, _, ew⟩ y => ?_) ⟨d, d6, (by rw [← ei]; exact ed), .inl ⟨(by rw [← ei]; exact k), v, (by rw [ei]), fun y => ?_⟩⟩ (by rw [← hE]; exact ⟨rfl, rfl, rfl⟩) C1.n C1.fo C1.gg C1.room C1.off C1.P (by omega) ⟨(by show G.M ≤ G2.M + 2; omega), (by show G2.M + 2 ≤ _; omega)⟩ (by rw [← hE]; rfl)
    · have hw : isN G2.N w := by rw [ew]; exact C1.rg k' h4 r hr ht
      rw [← n0, ← f0, E2.sm C1.ok hw, C1.ex.sm C1.ok hw]
    · rw [← n0, ← f0, mn.2.2.2 y, pg.2, sm_const (by omega), sm_const (by omega), ei]
      cases y.testBit (G0.E.ses i).cal.mask <;> rfl
  · subst e
    exact fin G.N _ set_ans_ses rfl (fun v _ y => rfl) ⟨d, d6, (by rw [← ei]; exact ed), .inr (.inl ⟨(by rw [← ei]; exact k), (by rw [ei])⟩)⟩ ⟨rfl, rfl, rfl⟩ rfl rfl rfl rfl rfl rfl (by omega) ⟨(by show G.M ≤ G.M + 2; omega), (by show G.M + 2 ≤ _; omega)⟩ rfl
  · subst e
    exact fin G.N _ clr_ans_ses rfl (fun v _ y => rfl) ⟨d, d6, (by rw [← ei]; exact ed), .inr (.inr ⟨(by rw [← ei]; exact k), (by rw [ei])⟩)⟩ ⟨rfl, rfl, rfl⟩ rfl rfl rfl rfl rfl rfl (by omega) ⟨(by show G.M ≤ G.M + 1; omega), (by show G.M + 1 ≤ _; omega)⟩ rfl
/-- a state between the picks: before the first, or behind it -/
theorem anyP_not (h : ∀ k, k < 4 → (G.E.ses k).pend = false) : ¬ anyP G.E := fun ⟨k, hk, hp⟩ => by rw [h k hk] at hp; cases hp
theorem Ran.none (R : Ran G0 4 G) : ∀ k, k < 4 → (G.E.ses k).pend = false := fun k hk => by
  have := R.lo k hk hk
  cases q : (G0.E.ses k).pend with
  | true => exact (this.1 q).pend
  | false => rw [this.2 q]; exact q
/-- the end of a pick -/
theorem Ran.end {w : Nat} (R : Ran G0 4 G) (W : EWd h e G) (P : PickR w G G') (h1 : G.M + 1000 ≤ G0.M + 1002 * 4 + 1000) : Ran G0 4 G' := by
  obtain ⟨G1, N', P', L', k, C1, e, Pk, hk, hph⟩ := P
  subst e
  have hj : P'.jobs = [] := List.eq_nil_of_length_eq_zero (by have := alike_len Pk.alike; rw [C1.P, R.jobs] at this; simpa using this)
  have j1 : G1.P.jobs = [] := by rw [C1.P]; exact R.jobs
  have hE : G1.E = G.E := C1.E
  have n0 : G1.n = G0.n := C1.n.trans R.n
  have f0 : G1.fo = G0.fo := C1.fo.trans R.fo
  have cn : cntN N' ≤ cntN G1.N := by
    have := Pk.le2
    unfold psi at this
    rw [hj, j1] at this
    simpa using this
  have hc := C1.cnt
  have rc := R.cnt
  have hM := C1.M
  have rM := R.M
  have mo := R.mono (N' := N') fun v ⟨k', r, h4, hr, ht, ev⟩ y => by
    have hv : isN G1.N v := by rw [ev]; exact C1.rg k' h4 r hr ht
    rw [← n0, ← f0, Pk.ex.sm C1.ok hv, C1.ex.sm C1.ok hv]
  have he : ({ G1 with N := N', P := P', L := L' } : EG).E = G.E := hE
  exact ⟨(by rw [he]; exact R.s), n0, f0, C1.gg.trans R.gg, C1.room.trans R.room, C1.off.trans R.off, (by show P'.ws.length = _; rw [Pk.alike.2.1, C1.P]; exact R.ws), hj, (by show P'.last = _; rw [Pk.alike.1, C1.P]; exact R.last), (by show cntN N' ≤ _; omega), ⟨(by show G0.M ≤ G1.M; omega), (by show G1.M ≤ _; omega)⟩, (by rw [he]; exact R.ans), (by rw [he]; exact mo.1), (by rw [he]; exact R.hi), (by rw [he]; exact mo.2)⟩
end
end Go.Proofs.YtnofenejoebkhaaGreat.Ev
/- SESSIONS (package engine): picks and rounds of picks while no job is about. Conditions: the world stands (EWd), the calls need no job (Easy). -/
namespace Go.Proofs.YtnofenejoebkhaaGreat.Ev
open Go
section
variable {h h' : Heap} {e i : Nat} {G G0 G' : EG} {K : Value → Heap → Prop}
theorem nPd_zero {E : Eng} : ∀ i, (∀ k, k < i → (E.ses k).pend = false) → nPd E i = 0 := by
  intro i
  induction i with
  | zero => intro _; rfl
  | succ i ih =>
    intro hb
    unfold nPd sumN
    have : nPd E i = 0 := ih fun k hk => hb k (by omega)
    unfold nPd at this
    rw [this, hb i (by omega)]
    rfl
theorem Ran.idle (hj : G0.P.jobs = []) (hn : ¬ anyP G0.E) : Ran G0 4 G0 := by
  have np : ∀ k, k < 4 → (G0.E.ses k).pend = false := fun k hk => by
    cases q : (G0.E.ses k).pend with
    | true => exact absurd ⟨k, hk, q⟩ hn
    | false => rfl
  exact ⟨⟨rfl, rfl, rfl⟩, rfl, rfl, rfl, rfl, rfl, rfl, hj, rfl, by omega, ⟨Nat.le_refl _, by omega⟩, by rw [nPd_zero 4 np]; rfl, fun k hk h4 => ⟨fun p => (by rw [np k h4] at p; cases p), fun _ => rfl⟩, fun k hk => rfl, fun k hk r hr ht ht' he y => rfl⟩
theorem step_easy {k : Int} (h : k = 1 ∨ k = 2 ∨ k = 6) : stepN k = 123 := if_pos h
theorem nPd_le {E : Eng} : ∀ i, nPd E i ≤ i := by
  intro i
  induction i with
  | zero => exact Nat.le_refl _
  | succ i ih =>
    unfold nPd sumN
    unfold nPd at ih
    split <;> omega
theorem Ran.skip (R : Ran G0 i G) (hp : (G.E.ses i).pend = false) : Ran G0 (i + 1) G := by
  have ei := R.hi i (Nat.le_refl _)
  have pi : (G0.E.ses i).pend = false := by rw [← ei]; exact hp
  refine ⟨R.s, R.n, R.fo, R.gg, R.room, R.off, R.ws, R.jobs, R.last, by have := R.cnt; omega, ⟨R.M.1, by have := R.M.2; omega⟩, ?_, fun k hk h4 => ?_, fun k hk => R.hi k (by omega), R.old⟩
  · rw [R.ans]
    show _ = G0.E.ans + (nPd G0.E i + if (G0.E.ses i).pend = true then 1 else 0)
    rw [pi]
    rfl
  · by_cases q : k = i
    · subst q
      exact ⟨fun p => (by rw [p] at pi; cases pi), fun _ => ei⟩
    · exact R.lo k (by omega) h4
theorem pick_none {who draw : Int} (W : EWd h e G) (hN : who < 0 ∨ (G.P.ws.length : Int) ≤ who ∨ ¬ anyP G.E) (hK : ∀ h', Only [] h h' → K (.bool false) h') : CallsH Tryz.prog 26 [ptrV e, .int .i64 who, .int .i64 draw] h K := by
  refine F26.spec _ _ _ h K ?_
  unfold F26.w F26.J0
  refine bcase_of (fun q => hK h (Only.refl _ _)) fun q => ?_
  have q := of_decide_eq_false q
  refine workers27 W (ldI_of rfl (bcase_of (fun p => hK h (Only.refl _ _)) fun p => ?_))
  have p : ¬ (G.P.ws.length : Int) ≤ who := of_decide_eq_false p
  have no : ¬ anyP G.E := by rcases hN with z | z | z <;> first | omega | exact z
  exact pending78 W.I (fun a => absurd a no) fun _ h1 O1 => ldB_of rfl (hK h1 O1)
theorem easy_pick (W : EWd h e G0) (Ea : Easy G0) {w : Nat} (hw : w < G0.P.ws.length) {draw : Int} (hN : ¬ anyP G0.E → ∀ h', Only [] h h' → K (.bool false) h')
    (hY : anyP G0.E → ∀ h' G', EWd h' e G' → Eside e G0 h G' h' → Ran G0 4 G' → K (.bool true) h') : CallsH Tryz.prog 26 [ptrV e, .int .i64 (w : Int), .int .i64 draw] h K := by
  have eM := Ea.M
  refine pick26 W (fun q h1 O1 => hN ?_ h1 O1) (fun i h1 G1 => EWd h1 e G1 ∧ Eside e G0 h G1 h1 ∧ Ran G0 i G1 ∧ G1.M ≤ G0.M + 1002 * i) (fun h1 O1 => ⟨W.only0 O1, Eside.only0 O1, Ran.refl Ea.jobs, by omega⟩)
    (fun {i h1 G1 h2} I O => ⟨I.1.only0 O, I.2.1.trans (Eside.only0 O), I.2.2⟩) (fun I => I.1) (fun {i h1 G1} hi I hp => ⟨I.1, I.2.1, I.2.2.1.skip hp, by have := I.2.2.2; omega⟩) (fun {i h1 G1 Q} hi I hp hQ => ?_) (fun _ _ a h1 G1 I => ?_)
  · rcases q with q | q | q
    · omega
    · omega
    · exact q
  · obtain ⟨W1, S1, R1, M1⟩ := I
    have ei := R1.hi i (Nat.le_refl _)
    obtain ⟨kd, rf⟩ := Ea.kind i hi (by rw [← ei]; exact hp)
    have kd1 : (G1.E.ses i).cal.kind = 1 ∨ (G1.E.ses i).cal.kind = 2 ∨ (G1.E.ses i).cal.kind = 6 := by rw [ei]; exact kd
    rw [step_easy kd1]
    have rc := R1.cnt
    have rm := Ea.room
    have ra := R1.ans
    have na := nPd_le (E := G0.E) i
    have ea := Ea.ans
    refine e_lays mr_less W1 hi (by show cntN G1.N < G1.room; rw [R1.room]; omega) (by omega) (by omega) kd1 (by rw [ei, R1.n]; exact rf) fun h2 G2 W2 S2 L => ?_
    refine hQ true h2 G2 ⟨W2, S1.trans S2, Ran.lay Ea R1 W1 W2 hi hp L, ?_⟩
    obtain ⟨d, -, -, ⟨-, G3, er, ⟨G4, N2, L2, v, er', f', C1, -, -, e1⟩, e2⟩ | ⟨-, f', e2⟩ | ⟨-, f', e2⟩⟩ := L
    · have := C1.M
      have : G3.M ≤ G4.M + 2 := by rw [e1]; split <;> (first | exact Nat.le_refl _ | exact Nat.le_add_right _ _)
      have : G2.M = G3.M := by rw [e2]; rfl
      omega
    · have : G2.M = G1.M + 2 := by rw [e2]; rfl
      omega
    · have : G2.M = G1.M + 1 := by rw [e2]; rfl
      omega
  · obtain ⟨W1, S1, R1, M1⟩ := I
    have rc := R1.cnt
    have rm := Ea.room
    refine pick_end mr_less W1 (by show cntN G1.N < G1.room; rw [R1.room]; omega) (by omega) (by rw [R1.ws]; exact hw) fun h2 G2 W2 S2 P => ?_
    exact hY a h2 G2 W2 (S1.trans S2) (R1.end W1 P (by omega))
theorem easy_fair (W : EWd h e G0) (Ea : Easy G0) (hK : ∀ h' G', EWd h' e G' → Eside e G0 h G' h' → Ran G0 4 G' → K (.bool true) h') : CallsH Tryz.prog 42 [ptrV e] h K := by
  have wl := W.W.Ok.len
  refine fair42 (m := 1) (fun m h1 G1 => EWd h1 e G1 ∧ Eside e G0 h G1 h1 ∧ ((m = 1 ∧ G1 = G0) ∨ (m = 0 ∧ Ran G0 4 G1))) (fun m w h1 G1 => EWd h1 e G1 ∧ Eside e G0 h G1 h1 ∧ m = 1 ∧ ((w = 0 ∧ G1 = G0 ∧ anyP G0.E) ∨ (1 ≤ w ∧ Ran G0 4 G1))) G0.P.ws.length wl.2
    ⟨W, Eside.refl, .inl ⟨rfl, rfl⟩⟩ (by omega) (fun I => I.1) (fun {m w h1 G1} I => ⟨I.1, ?_⟩) (fun {m h1 G1} I a => ⟨I.1, I.2.1, ?_⟩) (fun {m w h1 G1 Q draw} hw I hQ => ?_) (fun {m h1 G1} I => ?_) (fun m' h1 G1 _ I a => ?_)
  · rcases I.2.2.2 with ⟨-, q, -⟩ | ⟨-, q⟩
    · rw [q]
    · exact q.ws
  · rcases I.2.2 with ⟨q1, q2⟩ | ⟨q1, q2⟩
    · subst q2; exact ⟨q1, .inl ⟨rfl, rfl, a⟩⟩
    · exact absurd a (anyP_not q2.none)
  · obtain ⟨W1, S1, m1, q⟩ := I
    rcases q with ⟨q1, q2, q3⟩ | ⟨q1, q2⟩
    · subst q2
      exact easy_pick W1 Ea hw (fun a => absurd q3 a) fun a h2 G2 W2 S2 R2 => hQ _ h2 G2 ⟨W2, S1.trans S2, m1, .inr ⟨by omega, R2⟩⟩
    · have no := anyP_not q2.none
      exact pick_none W1 (.inr (.inr no)) fun h2 O2 => hQ _ h2 G1 ⟨W1.only0 O2, S1.trans (Eside.only0 O2), m1, .inr ⟨by omega, q2⟩⟩
  · obtain ⟨W1, S1, m1, q⟩ := I
    rcases q with ⟨q1, -, -⟩ | ⟨q1, q2⟩
    · omega
    · exact ⟨0, by omega, W1, S1, .inr ⟨rfl, q2⟩⟩
  · obtain ⟨W1, S1, q⟩ := I
    rcases q with ⟨q1, q2⟩ | ⟨q1, q2⟩
    · subst q2
      exact hK h1 G1 W1 S1 (Ran.idle Ea.jobs a)
    · exact hK h1 G1 W1 S1 q2
end
end Go.Proofs.YtnofenejoebkhaaGreat.Ev
/- SESSIONS (package engine): a call begun, the world behind it; no engine. Conditions: the world stands (EWd). -/
namespace Go.Proofs.YtnofenejoebkhaaGreat.Ev
open Go
section
variable {h h' : Heap} {e i : Nat} {G G0 G' : EG} {K : Value → Heap → Prop}
def bgnG (G : EG) (k : Nat) (c : Cal) : EG := { G with E := G.E.put k (bgnS (G.E.ses k) c) }
theorem e_begin {c : Cal} {i : Int} (W : EWd h e G) (hm : c.mask < 256)
    (hO : (i < 0 ∨ 4 ≤ i) → ∀ h', Only [] h h' → K (.int .i64 222) h')
    (hB : ∀ k : Nat, k < 4 → i = (k : Int) → (G.E.ses k).pend = true → ∀ h', Only [] h h' → K (.int .i64 220) h')
    (hR : ∀ k : Nat, k < 4 → i = (k : Int) → (G.E.ses k).pend = false → refu G.n (G.E.ses k) c ≠ 0 → ∀ h', Only [] h h' → K (.int .i64 (refu G.n (G.E.ses k) c)) h')
    (hK : ∀ k : Nat, k < 4 → i = (k : Int) → (G.E.ses k).pend = false → refu G.n (G.E.ses k) c = 0 → ∀ h', EWd h' e (bgnG G k c) → Eside e G h (bgnG G k c) h' → K (.int .i64 0) h') :
    CallsH Tryz.prog 24 [ptrV e, .int .i64 i, calV c] h K := by
  refine begin24 W.I W.W.S W.de.1 hm hO hB hR fun k hk ek hp hr h' I' O' => hK k hk ek hp hr h' ?_ (Eside.some O' (fun b hb => by simp at hb; subst hb; exact mem_ebl.2 (.inl rfl)) fun b hb => hb)
  have hs : ∀ q, ((bgnG G k c).E.ses q).there = (G.E.ses q).there ∧ ((bgnG G k c).E.ses q).hnd = (G.E.ses q).hnd := fun q => by
    show ((G.E.put k (bgnS (G.E.ses k) c)).ses q).there = _ ∧ ((G.E.put k (bgnS (G.E.ses k) c)).ses q).hnd = _
    rw [ses_put]
    by_cases z : q = k
    · rw [if_pos z, z]; exact ⟨rfl, rfl⟩
    · rw [if_neg z]; exact ⟨rfl, rfl⟩
  refine ⟨W.W.only O' (fun b hb => by simp at hb; subst hb; exact W.de.1) (fun b hb => by simp at hb; subst hb; exact W.de.2.1), W.R.only O' (fun b hb => by simp at hb; subst hb; exact W.de.2.2), I', fun x => ?_, W.de, W.dB, fun q hq r hr ht => ?_, fun q hq r hr ht => ?_, fun q hq => ?_, W.po⟩
  · rw [ind_same hs]; exact W.C x
  · rw [(hs q).2]; rw [(hs q).1] at ht; exact W.rg q hq r hr ht
  · rw [(hs q).2]; rw [(hs q).1] at ht; exact W.r0 q hq r hr ht
  · show ((G.E.put k (bgnS (G.E.ses k) c)).ses q).cal.mask < 256
    rw [ses_put]
    by_cases z : q = k
    · rw [if_pos z]; exact hm
    · rw [if_neg z]; exact W.mq q hq
theorem new18_bad {n : Nat} {room x : Int} (h8 : 8 < n) (hn : n < 1000000) (hK : K (.tuple #[.pointer none, .int .i64 40]) h) : CallsH Tryz.prog 18 [.int .i64 (n : Int), .int .i64 room, .int .i64 x] h K := by
  refine F18.spec _ _ _ h K ?_
  unfold F18.w F18.J0
  refine F61.spec _ _ h _ ?_
  unfold F61.w F61.J0
  rw [decide_eq_false (by omega), bcase_false, decide_eq_true (by omega), bcase_true]
  exact ⟨_, _, rfl, hK⟩
end
end Go.Proofs.YtnofenejoebkhaaGreat.Ev
/- THE LAWS OF LAYER 22: the self-test (known). Conditions: none. -/
namespace Go.Proofs.YtnofenejoebkhaaGreat.Ev
open Go
section
variable {h : Heap} {K : Value → Heap → Prop}
theorem fill_8' {n : Nat} (hn : n ≤ 8) : ∀ j, j < n → fill n j < 8 := fun j hj => by rw [show fill n j = j from if_pos hj]; omega
set_option maxRecDepth 100000 in
theorem known40 (hK : ∀ h', Only [] h h' → K (.bool true) h') : CallsH Tryz.prog 40 [] h K := by
  have hLB : LB = 140737488355328 := rfl
  refine F40.spec h K ?_
  unfold F40.w F40.J0
  refine new18 (n := 4) (room := 16400) (by omega) (by omega) (by omega) (by omega) fun h1 e G W1 s1 a1 n1 m1 f1 g1 _ N1 j1 w1 _ _ M1 b1 O1 => ⟨_, _, rfl, ?_⟩
  refine new18_bad (n := 9) (by omega) (by omega) ⟨_, _, rfl, ?_⟩
  rw [show ((0 : Int) != 0) = false from rfl, bcase_false, show (Option.isNone (some (Addr.mk e 0 none))) = false from rfl, bcase_false, show ((40 : Int) != 40) = false from rfl, bcase_false]
  refine workers27 W1 (ldI_of rfl ?_)
  rw [w1, show ((((wkn 2 : Nat) : Int)) != (2 : Int)) = false from rfl, bcase_false]
  -- three calls begun
  refine e_begin (c := ⟨1, 0, 1, 0, 0, 0, 2⟩) (i := 0) W1 (by show 2 < 256; omega) (fun q => by omega) (fun k hk ek hp => ?_) (fun k hk ek hp hr => ?_) fun k hk ek hp hr h2 W2 S2 => ldI_of rfl ?_
  · rw [s1] at hp; cases hp
  · exfalso
    apply hr
    rw [n1]
    unfold refu refu2
    rw [if_neg (by decide), if_neg (by decide), if_neg, if_neg (by decide), if_neg (by decide), if_neg (by decide)]
    intro q
    exact q fun r hr => by simp [rds] at hr
  have ek : k = 0 := by omega
  subst ek
  refine e_begin (c := ⟨6, 0, 0, 0, 0, 0, 0⟩) (i := 0) W2 (by show 0 < 256; omega) (fun q => by omega) (fun k hk ek _ h3 O3 => ldI_of rfl ?_) (fun k hk ek hp2 _ => ?_) fun k hk ek hp2 _ => ?_
  rotate_left
  · have ek : k = 0 := by omega
    subst ek
    rw [show ((bgnG G 0 ⟨1, 0, 1, 0, 0, 0, 2⟩).E.ses 0).pend = true from rfl] at hp2
    cases hp2
  · have ek : k = 0 := by omega
    subst ek
    rw [show ((bgnG G 0 ⟨1, 0, 1, 0, 0, 0, 2⟩).E.ses 0).pend = true from rfl] at hp2
    cases hp2
  have W3 := W2.only0 O3
  have e1s : ((bgnG G 0 ⟨1, 0, 1, 0, 0, 0, 2⟩).E.ses 1) = (eng0 0 0 0).ses 1 := by rw [← s1]; rfl
  have nok : ¬ rdsOk ((bgnG G 0 ⟨1, 0, 1, 0, 0, 0, 2⟩).E.ses 1) ⟨4, 0, 0, 0, 0, 0, 0⟩ := fun q => by
    have := (q 0 (by simp [rds])).2
    rw [e1s] at this
    cases this
  have rv : refu (bgnG G 0 ⟨1, 0, 1, 0, 0, 0, 2⟩).n ((bgnG G 0 ⟨1, 0, 1, 0, 0, 0, 2⟩).E.ses 1) ⟨4, 0, 0, 0, 0, 0, 0⟩ = 221 := by
    unfold refu
    rw [if_neg (by decide), if_neg (by decide), if_pos nok]
  refine e_begin (c := ⟨4, 0, 0, 0, 0, 0, 0⟩) (i := 1) W3 (by show 0 < 256; omega) (fun q => by omega) (fun k hk ek hp2 => ?_) (fun k hk ek _ hr h4 O4 => ldI_of rfl ?_) fun k hk ek _ hr => ?_
  · have ek : k = 1 := by omega
    subst ek
    rw [e1s] at hp2
    cases hp2
  rotate_left
  · have ek : k = 1 := by omega
    subst ek
    rw [rv] at hr
    cases hr
  have ek : k = 1 := by omega
  subst ek
  rw [rv, show ((0 : Int) != 0) = false from rfl, bcase_false, show ((220 : Int) != 220) = false from rfl, bcase_false, show ((221 : Int) != 221) = false from rfl, bcase_false]
  have W4 := W3.only0 O4
  obtain ⟨G2, eG2⟩ : ∃ G2, G2 = bgnG G 0 ⟨1, 0, 1, 0, 0, 0, 2⟩ := ⟨_, rfl⟩
  rw [← eG2] at W4 S2
  have sG2 : ∀ k, k ≠ 0 → G2.E.ses k = (eng0 0 0 0).ses k := fun k hk => by rw [eG2, ← s1]; exact upN_ne hk
  have sG0 : G2.E.ses 0 = bgnS ((eng0 0 0 0).ses 0) ⟨1, 0, 1, 0, 0, 0, 2⟩ := by rw [eG2, ← s1]; rfl
  refine pending56 W4.I (fun q => by omega) fun k hk ek => ldB_of rfl ?_
  have ek : k = 0 := by omega
  subst ek
  rw [sG0, show (bgnS ((eng0 0 0 0).ses 0) ⟨1, 0, 1, 0, 0, 0, 2⟩).pend = true from rfl, Bool.not_true, bcase_false]
  have Ea : Easy G2 := by
    refine ⟨by rw [eG2]; exact j1, fun i hi hp => ?_, by rw [eG2]; show cntN G.N + 5 < G.room; rw [N1, m1]; decide, by rw [eG2]; show G.M + 20000 ≤ _; rw [M1, hLB]; decide, by rw [eG2]; show G.E.ans + 10 < _; rw [a1]; decide⟩
    by_cases q : i = 0
    · subst q
      rw [sG0, eG2]
      refine ⟨.inl rfl, ?_⟩
      show refu G.n _ _ = 0
      rw [n1]
      unfold refu refu2
      rw [if_neg (by decide), if_neg (by decide), if_neg, if_neg (by decide), if_neg (by decide), if_neg (by decide)]
      intro q
      exact q fun r hr => by simp [rds, bgnS] at hr
    · rw [sG2 i q] at hp; cases hp
  refine easy_fair W4 Ea fun h5 G5 W5 S5 R5 => ldB_of rfl ?_
  rw [Bool.not_true, bcase_false]
  obtain ⟨d, d6, ed, L⟩ := (R5.lo 0 (by omega) (by omega)).1 (by rw [sG0]; rfl)
  have z4 : G2.n = 4 := by rw [eG2]; exact n1
  have zf : G2.fo = fill 4 := by rw [eG2]; exact f1
  rw [sG0] at ed L
  have d1 : d = 1 := by have : (1 : Int) = (d : Int) := ed; omega
  subst d1
  rcases L with ⟨-, v, e5, sv⟩ | ⟨k, -⟩ | ⟨k, -⟩
  rotate_left
  · cases k
  · cases k
  refine answer43 W5.I (fun q => by omega) fun k hk ek h6 O6 => ⟨_, _, _, rfl, ?_⟩
  have ek : k = 0 := by omega
  subst ek
  rw [e5]
  have W6 := W5.only0 O6
  refine newK_at fun h7 A7 O7 z7 => ?_
  refine stK_at (i := 0) A7 (by simp) rfl fun h8 A8 O8 z8 => ?_
  refine stK_at (i := 1) A8 (by simp) rfl fun h9 A9 O9 z9 => ?_
  have O79 : Only [] h6 h9 := (O7.trans O8 (by intro x hx hl; simp at hx; omega)).trans O9 (by intro x hx hl; simp at hx; omega)
  have W9 := W6.only0 O79
  refine reg28 W9.I ⟨_, _, rfl, ?_⟩
  have rV : regV G5.E 0 1 = ((v : Int), true) := by
    unfold regV
    rw [if_pos ⟨by omega, by unfold isR; omega⟩, show Int.toNat 0 = 0 from rfl, show Int.toNat 1 = 1 from rfl, e5]
    rfl
  rw [rV]
  show bcase true _ _
  rw [bcase_true]
  refine ldI_of (n := 0) (by rw [add_mk, At.rd A9]; rfl) ?_
  rw [show ((0 : Int) == 0) = true from rfl, bcase_true, bcase_true]
  refine store23 W9.I (ldP_of rfl ?_)
  refine var28 (v := 2) fun h10 g hg eg O10 => ⟨_, _, _, _, rfl, ?_⟩
  have W10 := W9.only0 O10
  have hv : isN G5.N v := by
    have := W5.rg 0 (by omega) 1 (by omega) (by rw [e5]; rfl)
    rw [e5] at this
    exact this
  have n5 : G5.n = 4 := R5.n.trans z4
  have f5 : G5.fo = fill 4 := R5.fo.trans zf
  refine is58 (X := XL G5.n G5.room G5.fo G5.gg G5.N G5.off) (fun j hj => ?_) W10.W.S hv hg (fun y hy => ?_) fun h11 O11 => ldB_of rfl ?_
  · show G5.fo j < 8
    rw [f5]
    exact fill_8' (n := 4) (by omega) j (by rw [← n5]; exact hj)
  · show sm G5.n G5.fo G5.N v y = fb g y
    rw [eg y hy, R5.n, R5.fo, sv y]
    rfl
  rw [bcase_true]
  have W11 := W10.only0 O11
  refine answered54 W11.I (ldI_of rfl ?_)
  have ea : G5.E.ans = 1 := by
    rw [R5.ans]
    have a2 : G2.E.ans = 0 := by rw [eG2]; exact a1
    rw [a2]
    unfold nPd sumN sumN sumN sumN sumN
    rw [sG0, sG2 1 (by omega), sG2 2 (by omega), sG2 3 (by omega)]
    rfl
  rw [ea]
  have OO : Only [] h h5 := by
    have b2 : ∀ b ∈ ebl e G2, h.size ≤ b := by
      intro b hb
      rcases S2.B b hb with q | q
      · exact b1 b q
      · have := O1.size; omega
    exact S5.only (((S2.only O1 b1).trans O3 (by simp)).trans O4 (by simp)) b2
  exact hK h11 ((((OO.trans O6 (by simp)).trans O79 (by simp)).trans O10 (by simp)).trans O11 (by simp))
end
end Go.Proofs.YtnofenejoebkhaaGreat.Ev
/- THE LAWS OF LAYER 22: one call at a time (EngineBusy). Conditions: the arguments are in their kinds' bounds. -/
namespace Go.Proofs.YtnofenejoebkhaaGreat.Ev
open Go
theorem mod_b {x : Int} (h : IntKind.min .u8 ≤ x ∧ x ≤ IntKind.max .u8) {d : Int} (hd : 0 < d) (hd2 : d < 1000) : ∃ k : Nat, (k : Int) < d ∧ IntKind.wrap .i64 (Int.tmod x d) = (k : Int) := by
  have ht := tmod_fit h hd
  rw [wrap_i64 (by omega) (by omega)]
  exact ⟨(Int.tmod x d).toNat, by omega, by omega⟩
def ses0 : Ses := ⟨fun _ => false, fun _ => 0, ⟨0, 0, 0, 0, 0, 0, 0⟩, false, 0, 0, 0, false⟩
/-- session s has begun a variable, those before k a constant -/
def bsy (s k j : Nat) : Ses := if j = s then bgnS ses0 ⟨1, 0, 0, 0, 0, 0, 1⟩ else if j < k then bgnS ses0 ⟨2, 0, 2, 0, 0, 0, j⟩ else ses0
structure Bsy (h0 h : Heap) (e s k : Nat) (G : EG) : Prop where
  W : EWd h e G
  ge : ∀ b ∈ ebl e G, h0.size ≤ b
  O : Only [] h0 h
  n : G.n = 4
  room : G.room = 16384
  N : G.N = []
  M : G.M = 0
  jobs : G.P.jobs = []
  ws : G.P.ws.length = 1
  ans : G.E.ans = 0
  ses : ∀ j, j < 4 → G.E.ses j = bsy s k j
/-- the same behind the picks -/
structure Bdn (h0 h : Heap) (e s : Nat) (G : EG) : Prop where
  W : EWd h e G
  ge : ∀ b ∈ ebl e G, h0.size ≤ b
  O : Only [] h0 h
  n : G.n = 4
  ws : G.P.ws.length = 1
  ans : G.E.ans = 4
  pend : ∀ j, j < 4 → (G.E.ses j).pend = false
  reg : ∀ j, j < 4 → j ≠ s → (G.E.ses j).there 2 = true ∧ (G.E.ses j).hnd 2 = min 1 j
  sr : (G.E.ses s).there 2 = false ∧ (G.E.ses s).there 0 = true
section
variable {h0 h h' : Heap} {e s k : Nat} {G G' : EG} {K : Value → Heap → Prop}
theorem Bsy.only0 (B : Bsy h0 h e s k G) (O : Only [] h h') : Bsy h0 h' e s k G := ⟨B.W.only0 O, B.ge, B.O.trans O (by simp), B.n, B.room, B.N, B.M, B.jobs, B.ws, B.ans, B.ses⟩
theorem Bdn.only0 (B : Bdn h0 h e s G) (O : Only [] h h') : Bdn h0 h' e s G := ⟨B.W.only0 O, B.ge, B.O.trans O (by simp), B.n, B.ws, B.ans, B.pend, B.reg, B.sr⟩
theorem bsy_pend {j : Nat} (hs : s < 4) (hj : j < 4) : (bsy s 4 j).pend = true := by
  unfold bsy
  split
  · rfl
  · rfl
theorem Bsy.easy (B : Bsy h0 h e s 4 G) (hs : s < 4) : Easy G := by
  have hLB : LB = 140737488355328 := rfl
  refine ⟨B.jobs, fun i hi hp => ?_, by rw [B.N, B.room]; decide, by rw [B.M, hLB]; decide, by rw [B.ans]; decide⟩
  rw [B.ses i hi, B.n]
  unfold bsy
  split
  · refine ⟨.inl rfl, ?_⟩
    unfold refu refu2
    rw [if_neg (by decide), if_neg (by decide), if_neg, if_neg (by decide), if_neg (by decide), if_neg (by decide)]
    intro q
    exact q fun r hr => by simp [rds, bgnS] at hr
  · refine ⟨.inr (.inl rfl), ?_⟩
    unfold refu refu2
    rw [if_neg (by show ¬ ¬ (1 ≤ (2 : Int) ∧ (2 : Int) ≤ 8); decide), if_neg (by show ¬ (wrK 2 ∧ ¬ isR 2); decide), if_neg, if_neg (by show ¬ ((2 : Int) = 3 ∧ takesZ 0 = 0); decide), if_neg (by show ¬ (((2 : Int) = 1 ∨ (2 : Int) = 3 ∧ (0 : Int) = 8) ∧ 4 ≤ i); omega), if_neg (by show ¬ ((2 : Int) = 3 ∧ _ ∧ _); omega)]
    intro q
    exact q fun r hr => by simp [rds, bgnS] at hr
theorem Bsy.done (B : Bsy h0 h e s 4 G) (hs : s < 4) (W' : EWd h' e G') (S : Eside e G h G' h') (R : Ran G 4 G') : Bdn h0 h' e s G' := by
  have hp : ∀ j, j < 4 → (G.E.ses j).pend = true := fun j hj => by rw [B.ses j hj]; exact bsy_pend hs hj
  refine ⟨W', S.ge B.O.size B.ge, S.only B.O B.ge, R.n.trans B.n, R.ws.trans B.ws, ?_, R.none, fun j hj hjs => ?_, ?_⟩
  · rw [R.ans, B.ans]
    unfold nPd sumN sumN sumN sumN sumN
    rw [hp 0 (by omega), hp 1 (by omega), hp 2 (by omega), hp 3 (by omega)]
    rfl
  · have L := (R.lo j hj hj).1 (hp j hj)
    have es : G.E.ses j = bgnS ses0 ⟨2, 0, 2, 0, 0, 0, j⟩ := by rw [B.ses j hj]; unfold bsy; rw [if_neg hjs, if_pos hj]
    rw [es] at L
    obtain ⟨d, d6, ed, ⟨q, -⟩ | ⟨-, q⟩ | ⟨q, -⟩⟩ := L
    · cases q
    · have d2 : d = 2 := by have : (2 : Int) = (d : Int) := ed; omega
      subst d2
      rw [q]
      exact ⟨rfl, rfl⟩
    · cases q
  · have L := (R.lo s hs hs).1 (hp s hs)
    have es : G.E.ses s = bgnS ses0 ⟨1, 0, 0, 0, 0, 0, 1⟩ := by rw [B.ses s hs]; unfold bsy; rw [if_pos rfl]
    rw [es] at L
    obtain ⟨d, d6, ed, ⟨-, v, q, -⟩ | ⟨q, -⟩ | ⟨q, -⟩⟩ := L
    · have d2 : d = 0 := by have : (0 : Int) = (d : Int) := ed; omega
      subst d2
      rw [q]
      exact ⟨rfl, rfl⟩
    · cases q
    · cases q
set_option maxRecDepth 100000 in
theorem busy_end (B : Bdn h0 h e s G) (hs : s < 4) : F9.wk21 (some ⟨e, 0, none⟩) (s : Int) 0 h (Lawful h0) := by
  have tail : ∀ h1, Bdn h0 h1 e s G → F9.wk26 (some ⟨e, 0, none⟩) (s : Int) h1 (Lawful h0) := fun h1 B1 => by
    unfold F9.wk26 F9.Jk26
    refine e_begin (c := ⟨5, 0, 0, 0, 0, 0, 0⟩) (i := (s : Int)) B1.W (by show 0 < 256; omega) (fun q => by omega) (fun k hk ek hp => ?_) (fun k hk ek hp hr => ?_) fun k hk ek hp hr h2 W2 S2 => ldI_of rfl ?_
    · rw [B1.pend k hk] at hp; cases hp
    · exfalso
      apply hr
      have ek : k = s := by omega
      subst ek
      rw [B1.n]
      unfold refu refu2
      rw [if_neg (by decide), if_neg (by decide), if_neg, if_neg (by decide), if_neg (by decide), if_neg (by decide)]
      intro q
      apply q
      intro r hr
      have hr : r = 0 := by simpa [rds] using hr
      subst hr
      exact ⟨by unfold isR; omega, B1.sr.2⟩
    · rw [show ((0 : Int) == 0) = true from rfl, bcase_true]
      have ge2 := S2.ge B1.O.size B1.ge
      have O2 := S2.only B1.O B1.ge
      refine e_begin (c := ⟨7, 0, 0, 0, 0, 0, 0⟩) (i := 4) W2 (by show 0 < 256; omega) (fun q h3 O3 => ldI_of rfl ⟨rfl, O2.trans O3 (by simp)⟩) (fun k hk ek => by omega) (fun k hk ek => by omega) fun k hk ek => by omega
  unfold F9.wk21 F9.Jk21
  have main : ∀ (d t : Nat), d + t = 4 → F9.wL21 (d + 1) (some ⟨e, 0, none⟩) (s : Int) (t : Int) h (Lawful h0) := by
    intro d
    induction d with
    | zero =>
      intro t ht
      unfold F9.wL21 F9.JL21
      rw [decide_eq_false (by omega), bcase_false]
      exact tail h B
    | succ d ih =>
      intro t ht
      unfold F9.wL21 F9.JL21
      rw [decide_eq_true (by omega), bcase_true]
      refine reg28 B.W.I ⟨_, _, rfl, ?_⟩
      have rV : regV G.E (t : Int) 2 = (((G.E.ses t).hnd 2 : Int), (G.E.ses t).there 2) := by
        unfold regV
        rw [if_pos ⟨by omega, by unfold isR; omega⟩, Int.toNat_natCast]
        rfl
      rw [rV]
      have nx := ih (t + 1) (by omega)
      rw [wr_s (by omega)]
      by_cases q : t = s
      · subst q
        rw [show ((t : Int) != (t : Int)) = false by simp, bcase_false, show ((t : Int) == (t : Int)) = true by simp, bcase_true, B.sr.1]
        exact nx
      · obtain ⟨r1, r2⟩ := B.reg t (by omega) q
        rw [show ((t : Int) != (s : Int)) = true by simp; omega, bcase_true, r1, r2, Bool.not_true, bcase_false]
        have e1 : ((((min 1 t : Nat) : Int) == 1) == (decide ((t : Int) > 0))) = true := by
          by_cases z : t = 0
          · subst z; rfl
          · rw [show min 1 t = 1 by omega, decide_eq_true (by omega)]; rfl
        rw [e1, Bool.not_true, bcase_false, decide_eq_false (by omega), bcase_false, show ((t : Int) == (s : Int)) = false by simp; omega, bcase_false]
        exact nx
  exact ⟨_, main 4 0 (by omega)⟩
set_option maxRecDepth 100000 in
theorem busy_mid {x0 : Int} {p : Nat} (hp : (p : Int) < 5) (ep : IntKind.wrap .i64 (Int.tmod x0 5) = (p : Int)) (hs : s < 4) (B : Bsy h0 h e s 4 G) : F9.wk15 x0 (some ⟨e, 0, none⟩) (s : Int) 0 h (Lawful h0) := by
  have last : ∀ {hh : Heap} {G1 : EG}, Bdn h0 hh e s G1 → bcase (!true) (Lawful h0 (.bool false) hh) (CallsH Tryz.prog 54 [(.pointer (some ⟨e, 0, none⟩))] hh (fun v4 h5 => ldI .i64 (some v4) (fun n6 => bcase (n6 != (4 : Int)) (Lawful h0 (.bool false) h5) (CallsH Tryz.prog 26 [(.pointer (some ⟨e, 0, none⟩)), (.int .i64 (0 : Int)), (.int .i64 (0 : Int))] h5 (fun v7 h8 => ldB (some v7) (fun b9 => bcase b9 (Lawful h0 (.bool false) h8) (F9.wk21 (some ⟨e, 0, none⟩) (s : Int) 0 h8 (Lawful h0)))))))) := fun {hh G1} B1 => by
    rw [Bool.not_true, bcase_false]
    refine answered54 B1.W.I (ldI_of rfl ?_)
    rw [B1.ans, show ((((4 : Nat) : Int)) != (4 : Int)) = false from rfl, bcase_false]
    refine pick_none B1.W (.inr (.inr (anyP_not B1.pend))) fun h2 O2 => ldB_of rfl ?_
    rw [bcase_false]
    exact busy_end (B1.only0 O2) hs
  have fairS : ∀ {hh : Heap}, Bsy h0 hh e s 4 G → F9.wk18 (some ⟨e, 0, none⟩) (s : Int) hh (Lawful h0) := fun {hh} B1 => by
    unfold F9.wk18 F9.Jk18
    exact easy_fair B1.W (B1.easy hs) fun h2 G2 W2 S2 R2 => ldB_of rfl (last (B1.done hs W2 S2 R2))
  have fairD : ∀ {hh : Heap} {G1 : EG}, Bdn h0 hh e s G1 → F9.wk18 (some ⟨e, 0, none⟩) (s : Int) hh (Lawful h0) := fun {hh G1} B1 => by
    unfold F9.wk18 F9.Jk18
    refine fair42 (m := 0) (fun m h1 G2 => Bdn h0 h1 e s G2) (fun m w h1 G2 => False) 1 (by omega) B1 (by omega) (fun I => I.W) (fun f => f.elim) (fun I a => absurd a (anyP_not I.pend)) (fun _ f => f.elim) (fun f => f.elim) fun m h1 G2 _ I _ => ldB_of rfl (last I)
  unfold F9.wk15 F9.Jk15
  have main : ∀ (d t : Nat) (hh : Heap), d + t = p → ((Bsy h0 hh e s 4 G) ∨ ∃ G1, Bdn h0 hh e s G1) → F9.wL15 (d + 1) x0 (some ⟨e, 0, none⟩) (s : Int) (t : Int) hh (Lawful h0) := by
    intro d
    induction d with
    | zero =>
      intro t hh ht I
      unfold F9.wL15 F9.JL15
      rw [ep]
      refine ⟨by omega, ?_⟩
      rw [decide_eq_false (by omega), bcase_false]
      rcases I with I | ⟨G1, I⟩
      · exact fairS I
      · exact fairD I
    | succ d ih =>
      intro t hh ht I
      unfold F9.wL15 F9.JL15
      rw [ep]
      refine ⟨by omega, ?_⟩
      rw [decide_eq_true (by omega), bcase_true, show IntKind.wrap .i64 ((t : Int) + 1) = ((t + 1 : Nat) : Int) by rw [wrap_i64 (by omega) (by omega)]; omega]
      rcases I with I | ⟨G1, I⟩
      · refine easy_pick (w := 0) I.W (I.easy hs) (by rw [I.ws]; omega) (fun a => absurd ⟨0, by omega, by rw [I.ses 0 (by omega)]; exact bsy_pend hs (by omega)⟩ a) fun _ h2 G2 W2 S2 R2 => ldB_of rfl ?_
        exact ih (t + 1) h2 (by omega) (.inr ⟨G2, I.done hs W2 S2 R2⟩)
      · refine pick_none I.W (.inr (.inr (anyP_not I.pend))) fun h2 O2 => ldB_of rfl ?_
        exact ih (t + 1) h2 (by omega) (.inr ⟨G1, I.only0 O2⟩)
  exact ⟨_, main p 0 h (by omega) (.inl B)⟩
set_option maxRecDepth 100000 in
theorem law9 (h : Heap) (x0 : Int) (r0 : IntKind.min .u8 ≤ x0 ∧ x0 ≤ IntKind.max .u8) (x1 : Int) (r1 : IntKind.min .u8 ≤ x1 ∧ x1 ≤ IntKind.max .u8) : CallsH Tryz.prog 9 [.int .u8 x0, .int .u8 x1] h (Lawful h) := by
  obtain ⟨p, hp5, ep⟩ := mod_b r0 (d := 5) (by omega) (by omega)
  obtain ⟨s, hs, es⟩ := mod_b r1 (d := 4) (by omega) (by omega)
  have hs4 : s < 4 := by omega
  refine F9.spec _ _ h _ ?_
  unfold F9.w F9.J0
  rw [es]
  refine known40 fun h1 O1 => ldB_of rfl ?_
  rw [Bool.not_true, bcase_false]
  refine new18 (n := 4) (room := 16384) (by omega) (by omega) (by omega) (by omega) fun h2 e G W2 s2 a2 n2 m2 f2 g2 _ N2 j2 w2 _ _ M2 b2 O2 => ⟨_, _, rfl, ?_⟩
  rw [show ((0 : Int) != 0) = false from rfl, bcase_false]
  refine ⟨by omega, ?_⟩
  have z1 := O1.size
  have O12 := O1.trans O2 (by simp)
  refine e_begin (c := ⟨1, 0, 0, 0, 0, 0, 1⟩) (i := (s : Int)) W2 (by show 1 < 256; omega) (fun q => by omega) (fun k hk ek hp => ?_) (fun k hk ek hp hr => ?_) fun k hk ek hp hr h3 W3 S3 => ldI_of rfl ?_
  · rw [s2] at hp; cases hp
  · exfalso
    apply hr
    rw [n2]
    unfold refu refu2
    rw [if_neg (by decide), if_neg (by decide), if_neg, if_neg (by decide), if_neg (by decide), if_neg (by decide)]
    intro q
    exact q fun r hr => by simp [rds] at hr
  have ek : k = s := by omega
  subst ek
  have b2' : ∀ b ∈ ebl e G, h.size ≤ b := fun b hb => by have := b2 b hb; omega
  have B3 : Bsy h h3 e k 0 (bgnG G k ⟨1, 0, 0, 0, 0, 0, 1⟩) := ⟨W3, S3.ge O12.size b2', S3.only O12 b2', n2, m2, N2, M2, j2, w2, a2, fun j hj => by
    show (G.E.put k (bgnS (G.E.ses k) _)).ses j = _
    rw [ses_put, s2]
    unfold bsy
    by_cases q : j = k
    · rw [if_pos q, if_pos q]; rfl
    · rw [if_neg q, if_neg q, if_neg (by omega)]; rfl⟩
  rw [show ((0 : Int) != 0) = false from rfl, bcase_false]
  refine e_begin (c := ⟨1, 0, 1, 0, 0, 0, 1⟩) (i := (k : Int)) B3.W (by show 1 < 256; omega) (fun q => by omega) (fun j hj ej _ h4 O4 => ldI_of rfl ?_) (fun j hj ej hp2 => ?_) fun j hj ej hp2 => ?_
  rotate_left
  · have ej : j = k := by omega
    rw [B3.ses j hj, ej] at hp2
    unfold bsy at hp2
    rw [if_pos rfl] at hp2
    cases hp2
  · have ej : j = k := by omega
    rw [B3.ses j hj, ej] at hp2
    unfold bsy at hp2
    rw [if_pos rfl] at hp2
    cases hp2
  rw [show ((220 : Int) != 220) = false from rfl, bcase_false]
  unfold F9.wk10 F9.Jk10
  have main : ∀ (d t : Nat) (hh : Heap) (G1 : EG), d + t = 4 → Bsy h hh e k t G1 → F9.wL10 (d + 1) x0 (some ⟨e, 0, none⟩) (k : Int) (t : Int) hh (Lawful h) := by
    intro d
    induction d with
    | zero =>
      intro t hh G1 ht B
      unfold F9.wL10 F9.JL10
      rw [decide_eq_false (by omega), bcase_false]
      have et : t = 4 := by omega
      subst et
      unfold F9.wk14 F9.Jk14
      exact busy_mid hp5 ep hs4 B
    | succ d ih =>
      intro t hh G1 ht B
      unfold F9.wL10 F9.JL10
      rw [decide_eq_true (by omega), bcase_true, wr_s (by omega)]
      by_cases q : t = k
      · subst q
        rw [show ((t : Int) != (t : Int)) = false by simp, bcase_false]
        refine ih (t + 1) hh G1 (by omega) ⟨B.W, B.ge, B.O, B.n, B.room, B.N, B.M, B.jobs, B.ws, B.ans, fun j hj => ?_⟩
        rw [B.ses j hj]
        unfold bsy
        by_cases z : j = t
        · rw [if_pos z, if_pos z]
        · rw [if_neg z, if_neg z]
          by_cases z2 : j < t
          · rw [if_pos z2, if_pos (by omega)]
          · rw [if_neg z2, if_neg (by omega)]
      · rw [show ((t : Int) != (k : Int)) = true by simp; omega, bcase_true, wrap8 (by omega)]
        have est : G1.E.ses t = ses0 := by rw [B.ses t (by omega)]; unfold bsy; rw [if_neg q, if_neg (by omega)]
        refine e_begin (c := ⟨2, 0, 2, 0, 0, 0, t⟩) (i := (t : Int)) B.W (by show t < 256; omega) (fun q => by omega) (fun j hj ej hp2 => ?_) (fun j hj ej hp2 hr => ?_) fun j hj ej hp2 hr h5 W5 S5 => ldI_of rfl ?_
        · have ej : j = t := by omega
          subst ej
          rw [est] at hp2; cases hp2
        · exfalso
          apply hr
          rw [B.n]
          unfold refu refu2
          rw [if_neg (by show ¬ ¬ (1 ≤ (2 : Int) ∧ (2 : Int) ≤ 8); decide), if_neg (by show ¬ (wrK 2 ∧ ¬ isR 2); decide), if_neg, if_neg (by show ¬ ((2 : Int) = 3 ∧ takesZ 0 = 0); decide), if_neg (by show ¬ (((2 : Int) = 1 ∨ (2 : Int) = 3 ∧ (0 : Int) = 8) ∧ 4 ≤ t); omega), if_neg (by show ¬ ((2 : Int) = 3 ∧ _ ∧ _); omega)]
          intro q
          exact q fun r hr => by simp [rds] at hr
        · have ej : j = t := by omega
          subst ej
          rw [show ((0 : Int) != 0) = false from rfl, bcase_false]
          refine ih (j + 1) h5 _ (by omega) ⟨W5, S5.ge B.O.size B.ge, S5.only B.O B.ge, B.n, B.room, B.N, B.M, B.jobs, B.ws, B.ans, fun i hi => ?_⟩
          show (G1.E.put j (bgnS (G1.E.ses j) _)).ses i = _
          rw [ses_put, est]
          unfold bsy
          by_cases z : i = j
          · subst z
            rw [if_pos rfl, if_neg q, if_pos (by omega)]
          · rw [if_neg z, B.ses i hi]
            unfold bsy
            by_cases z1 : i = k
            · rw [if_pos z1, if_pos z1]
            · rw [if_neg z1, if_neg z1]
              by_cases z2 : i < j
              · rw [if_pos z2, if_pos (by omega)]
              · rw [if_neg z2, if_neg (by omega)]
  exact ⟨_, main 4 0 h4 _ (by omega) (B3.only0 O4)⟩
end
end Go.Proofs.YtnofenejoebkhaaGreat.Ev
