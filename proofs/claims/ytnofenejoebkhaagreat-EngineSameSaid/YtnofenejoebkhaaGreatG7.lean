/- PART 7 OF WHAT THE LAW EngineSame STANDS ON: CntP5, CntF5, CntA5, EngH5, EngJ5, LeF5, EngK5, EngL5, EngN5, EngO5, EngP5, EngQ5, EngR5, EngT5, EngV5, EngW5, EngX5, EngY5, EngZ5, CanA5, LawM5, LawN5, LawO5, LgF5, LawP5, LfF5, EvQ, LawQ5. Conditions: none but those that each lemma states. -/
import Derived.Test.YtnofenejoebkhaaGreatG6
namespace Go.Proofs.YtnofenejoebkhaaGreat.Ev
open Go
section
def trs (p : Nat → Bool) (k : Nat) : List Nat := (List.range k).filter p
theorem trs_succ (p : Nat → Bool) (k : Nat) : trs p (k + 1) = trs p k ++ if p k then [k] else [] := by
  unfold trs
  rw [List.range_succ, List.filter_append]
  cases h : p k <;> simp [h]
def tN (p : Nat → Bool) (k : Nat) : Nat := (trs p k).length
theorem tN_zero (p : Nat → Bool) : tN p 0 = 0 := rfl
theorem tN_succ (p : Nat → Bool) (k : Nat) : tN p (k + 1) = tN p k + if p k then 1 else 0 := by
  unfold tN
  rw [trs_succ, List.length_append]
  cases p k <;> rfl
theorem tN_congr {p q : Nat → Bool} : ∀ {k : Nat}, (∀ x, x < k → p x = q x) → tN p k = tN q k
  | 0, _ => rfl
  | k + 1, h => by rw [tN_succ, tN_succ, tN_congr fun x hx => h x (by omega), h k (by omega)]
theorem tN_add (p : Nat → Bool) (a : Nat) : ∀ b, tN p (a + b) = tN p a + tN (fun x => p (a + x)) b
  | 0 => by rw [tN_zero]; rfl
  | b + 1 => by rw [← Nat.add_assoc, tN_succ, tN_add p a b, tN_succ]; omega
theorem flip_top {n x : Nat} (h : x < 2 ^ n) : x ^^^ 2 ^ n = 2 ^ n + x := by
  refine Nat.eq_of_testBit_eq fun i => ?_
  rw [Nat.testBit_xor, Nat.testBit_two_pow]
  rcases Nat.lt_trichotomy i n with h1 | h1 | h1
  · rw [Nat.testBit_two_pow_add_gt h1, decide_eq_false (by omega), Bool.xor_false]
  · subst h1
    rw [Nat.testBit_two_pow_add_eq, decide_eq_true rfl, Bool.xor_true]
  · have e : 2 ^ (n + 1) ≤ 2 ^ i := Nat.pow_le_pow_right (by decide) h1
    rw [Nat.pow_succ] at e
    rw [Nat.testBit_lt_two_pow (show x < 2 ^ i by omega), Nat.testBit_lt_two_pow (show 2 ^ n + x < 2 ^ i by omega), decide_eq_false (by omega), Bool.xor_false]
theorem half : ∀ (n v : Nat) {p q : Nat → Bool}, v < n → (∀ x, x < 2 ^ n → p (x ^^^ 2 ^ v) = p x) → (∀ x, x < 2 ^ n → q (x ^^^ 2 ^ v) = q x) →
    2 * tN (fun x => if x.testBit v then q x else p x) (2 ^ n) = tN p (2 ^ n) + tN q (2 ^ n)
  | 0, v, p, q, hv, _, _ => by omega
  | n + 1, v, p, q, hv, hp, hq => by
    have e : 2 ^ (n + 1) = 2 ^ n + 2 ^ n := by rw [Nat.pow_succ]; omega
    rw [e, tN_add, tN_add, tN_add]
    rcases Nat.lt_or_ge v n with h | h
    · have cm : ∀ x, x < 2 ^ n → 2 ^ n + (x ^^^ 2 ^ v) = (2 ^ n + x) ^^^ 2 ^ v := fun x hx => by
        have lt : x ^^^ 2 ^ v < 2 ^ n := Nat.xor_lt_two_pow hx (Nat.pow_lt_pow_right (by decide) h)
        rw [← flip_top lt, ← flip_top hx, Nat.xor_assoc, Nat.xor_assoc, Nat.xor_comm (2 ^ v)]
      have i1 := half n v (p := p) (q := q) h (fun x hx => hp x (by omega)) fun x hx => hq x (by omega)
      have i2 := half n v (p := fun x => p (2 ^ n + x)) (q := fun x => q (2 ^ n + x)) h (fun x hx => by show p _ = p _; rw [cm x hx, hp _ (by omega)]) fun x hx => by show q _ = q _; rw [cm x hx, hq _ (by omega)]
      have e2 : tN (fun x => if (2 ^ n + x).testBit v then q (2 ^ n + x) else p (2 ^ n + x)) (2 ^ n) = tN (fun x => if x.testBit v then q (2 ^ n + x) else p (2 ^ n + x)) (2 ^ n) :=
        tN_congr fun x _ => by rw [Nat.testBit_two_pow_add_gt h]
      rw [e2]
      omega
    · have : v = n := by omega
      subst this
      have p2 : tN (fun x => p (2 ^ v + x)) (2 ^ v) = tN p (2 ^ v) := tN_congr fun x hx => by rw [← flip_top hx, hp x (by omega)]
      have q2 : tN (fun x => q (2 ^ v + x)) (2 ^ v) = tN q (2 ^ v) := tN_congr fun x hx => by rw [← flip_top hx, hq x (by omega)]
      have l1 : tN (fun x => if x.testBit v then q x else p x) (2 ^ v) = tN p (2 ^ v) := tN_congr fun x hx => by rw [Nat.testBit_lt_two_pow hx]; rfl
      have l2 : tN (fun x => if (2 ^ v + x).testBit v then q (2 ^ v + x) else p (2 ^ v + x)) (2 ^ v) = tN q (2 ^ v) := tN_congr fun x hx => by
        rw [Nat.testBit_two_pow_add_eq, Nat.testBit_lt_two_pow hx, ← flip_top hx, hq x (by omega)]
        rfl
      rw [p2, q2, l1, l2]
      omega
section
variable {n : Nat} {f : Nat → Nat} {N : List (Option Nd)}
end
end
section
end
section
section
variable {h : Heap} {s : Nat} {L : List Nat} {X : SX}
end
end
section
structure Coll (G G' : EG) : Prop where
  E : G'.E = G.E
  n : G'.n = G.n
  room : G'.room = G.room
  fo : G'.fo = G.fo
  gg : G'.gg = G.gg
  off : G'.off = G.off
  P : G'.P = G.P
  f : G'.f = G.f
  ex : Ex G'.N G.N
  cnt : cntN G'.N ≤ cntN G.N
  M : G.M ≤ G'.M ∧ G'.M ≤ G.M + 1000
  ok : NOk G'.n G'.N
  rg : ∀ i, i < 4 → ∀ r, r < 6 → (G.E.ses i).there r = true → isN G'.N ((G.E.ses i).hnd r)
theorem Coll.refl {h : Heap} {e : Nat} {G : EG} (W : EWd h e G) : Coll G G := ⟨rfl, rfl, rfl, rfl, rfl, rfl, rfl, rfl, Ex.refl _, Nat.le_refl _, ⟨Nat.le_refl _, by omega⟩, W.W.S.ok.1, W.rg⟩
def MRspec (C : Nat → Nat → Prop) : Prop := ∀ {h : Heap} {e : Nat} {G : EG} {K : Value → Heap → Prop}, EWd h e G → C (cntN G.N) G.room → G.M ≤ LB / 1000 →
  (∀ h' G', EWd h' e G' → Coll G G' → Eside e G h G' h' → K (.tuple #[]) h') → CallsH Tryz.prog 80 [ptrV e] h K
section
variable {h h' : Heap} {e : Nat} {G G' : EG} {K : Value → Heap → Prop}
theorem mr_less : MRspec fun c r => c < r := by
  intro h e G K W hc hM hK
  refine F80.spec _ h K ?_
  unfold F80.w F80.J0
  have rs : rd h ⟨e, 0, none⟩ = some (.pointer (some ⟨G.E.s, 0, none⟩)) := W.I.s
  simp only [add_mk, Nat.zero_add]
  refine ldP_of rs (ldP_of rs (sto_len W.W.S (ldI_of rfl ⟨trivial, trivial, trivial, ldP_of rs ⟨rfl, sto_room W.W.S (ldI_of rfl ?_)⟩⟩)))
  have hc : cntN (XL G.n G.room G.fo G.gg G.N G.off).N < (XL G.n G.room G.fo G.gg G.N G.off).room := hc
  rw [decide_eq_false (by omega), bcase_false]
  exact hK h G W (Coll.refl W) Eside.refl
def stoG (G : EG) (N' : List (Option Nd)) (L' : List Nat) : EG := { G with N := N', L := L' }
theorem EWd.sto {N' : List (Option Nd)} {L' : List Nat} (W : EWd h e G) (S : Sto h' G.E.s L' { XL G.n G.room G.fo G.gg G.N G.off with N := N' }) (E : Ex G.N N') (O : Only G.L h h') (F : Fresh G.L L' h) :
    EWd h' e (stoG G N' L') ∧ Eside e G h (stoG G N' L') h' := by
  have ok := W.W.S.ok.1
  have lt := W.lt
  have DP : ∀ b, PBl G.E.p G.P b → b ∉ L' := fun b hb hm => by
    rcases F b hm with q | q
    · exact W.W.D b hb q
    · have := lt b (mem_ebl.2 (.inr (.inr (.inr hb)))); omega
  refine ⟨⟨⟨sto_XL S ok E, W.W.H.only O fun b hb hp => W.W.D b hp hb, (W.W.Ok.ext W.W.GO ok E).1, goals_ext W.W.GO E, DP⟩, W.R.only O (fun b hb hm => (W.dB b hm).1 hb), W.I.only O W.de.1, W.C, ⟨fun hm => ?_, W.de.2.1, W.de.2.2⟩, fun b hb => ⟨fun hm => ?_, (W.dB b hb).2⟩, fun i hi r hr ht => E.isN (W.rg i hi r hr ht), W.r0, W.mq, W.po⟩, ⟨fun T hT => O.mono fun b hb _ => hT b (mem_ebl.2 (.inr (.inl hb))), fun b hb => ?_⟩⟩
  · rcases F e hm with q | q
    · exact W.de.1 q
    · have := lt e (mem_ebl.2 (.inl rfl)); omega
  · rcases F b hm with q | q
    · exact (W.dB b hb).1 q
    · have := lt b (mem_ebl.2 (.inr (.inr (.inl hb)))); omega
  · rcases mem_ebl.1 hb with q | q | q | q
    · exact .inl (mem_ebl.2 (.inl q))
    · rcases F b q with q | q
      · exact .inl (mem_ebl.2 (.inr (.inl q)))
      · exact .inr q
    · exact .inl (mem_ebl.2 (.inr (.inr (.inl q))))
    · exact .inl (mem_ebl.2 (.inr (.inr (.inr q))))
theorem mk_ex {room : Nat} {N N' : List (Option Nd)} {l a b r er : Nat} (R : MkRel room N l a b N' r er) : Ex N N' ∧ (er = 0 ∨ er = 60) ∧ (er = 60 → room ≤ cntN N ∧ N' = N) := by
  rcases R with ⟨-, -, e, e2⟩ | ⟨-, i, -, -, e, e2⟩ | ⟨-, -, h1, -, e, e2⟩ | ⟨-, -, -, e, q, -, p⟩
  · subst e2; exact ⟨Ex.refl _, .inl e, fun h => by omega⟩
  · subst e2; exact ⟨Ex.refl _, .inl e, fun h => by omega⟩
  · subst e2; exact ⟨Ex.refl _, .inr e, fun _ => ⟨h1, rfl⟩⟩
  · exact ⟨p.ext, .inl e, fun h => by omega⟩
end
end
section
def stepN (k : Int) : Nat := if k = 1 ∨ k = 2 ∨ k = 6 then 123 else if k = 4 ∨ k = 5 then 124 else if k = 7 then 125 else if k = 8 then 126 else 127
def sesP (e i : Nat) : Value := .pointer (some ⟨e, 3 + 24 * i, none⟩)
theorem go123 : xget X 123 = some Ext.go := by kernel_rfl
theorem go124 : xget X 124 = some Ext.go := by kernel_rfl
theorem go125 : xget X 125 = some Ext.go := by kernel_rfl
theorem go126 : xget X 126 = some Ext.go := by kernel_rfl
theorem go127 : xget X 127 = some Ext.go := by kernel_rfl
theorem go_step (k : Int) : xget X (stepN k) = some Ext.go := by
  unfold stepN
  repeat' split
  · exact go123
  · exact go124
  · exact go125
  · exact go126
  · exact go127
section
variable {h h' : Heap} {e : Nat} {G G' : EG} {K : Value → Heap → Prop} {C : Nat → Nat → Prop}
theorem step79 {c : Cal} (hK : ∀ h', Only [] h h' → K (.func (.func (stepN c.kind)) #[ptrV e] #[]) h') : CallsH Tryz.prog 79 [ptrV e, calV c] h K := by
  refine F79.spec _ _ _ _ _ _ _ _ h K ?_
  unfold F79.w
  refine newK_at fun h1 A1 O1 z1 => ?_
  simp only [add_mk, Nat.zero_add]
  refine ldI_of (n := c.kind) (by rw [At.rd A1]; rfl) ?_
  have hK := hK h1 O1
  obtain ⟨k, ek⟩ : ∃ k, k = c.kind := ⟨_, rfl⟩
  rw [← ek] at hK ⊢
  unfold stepN at hK
  by_cases h1 : k = 1
  · subst h1; exact hK
  by_cases h2 : k = 2
  · subst h2; exact hK
  by_cases h4 : k = 4
  · subst h4; exact hK
  by_cases h5 : k = 5
  · subst h5; exact hK
  by_cases h6 : k = 6
  · subst h6; exact hK
  by_cases h7 : k = 7
  · subst h7; exact hK
  by_cases h8 : k = 8
  · subst h8; exact hK
  rw [if_neg (by omega), if_neg (by omega), if_neg h7, if_neg h8] at hK
  simp only [eqz h1, eqz h2, eqz h4, eqz h5, eqz h6, eqz h7, eqz h8, bcase_false]
  exact hK
theorem workers27 (W : EWd h e G) (hK : K (.int .i64 (G.P.ws.length : Int)) h) : CallsH Tryz.prog 27 [ptrV e] h K := by
  refine F27.spec _ h K ?_
  unfold F27.w
  exact ldP_of (by rw [add_mk]; exact W.I.p) (workers68 W.W.H (ldI_of rfl hK))
theorem pick26 {who draw : Int} (W : EWd h e G) (hOut : (who < 0 ∨ (G.P.ws.length : Int) ≤ who ∨ ¬ anyP G.E) → ∀ h', Only [] h h' → K (.bool false) h')
    (Inv : Nat → Heap → EG → Prop) (h0 : ∀ h', Only [] h h' → Inv 0 h' G) (hO : ∀ {i h1 G1 h2}, Inv i h1 G1 → Only [] h1 h2 → Inv i h2 G1) (hW : ∀ {i h1 G1}, Inv i h1 G1 → EWd h1 e G1)
    (hn : ∀ {i h1 G1}, i < 4 → Inv i h1 G1 → (G1.E.ses i).pend = false → Inv (i + 1) h1 G1)
    (hs : ∀ {i h1 G1} {Q : Value → Heap → Prop}, i < 4 → Inv i h1 G1 → (G1.E.ses i).pend = true → (∀ b h2 G2, Inv (i + 1) h2 G2 → Q (.bool b) h2) → CallsH Tryz.prog (stepN (G1.E.ses i).cal.kind) [ptrV e, sesP e i] h1 Q)
    (hE : 0 ≤ who → who < (G.P.ws.length : Int) → anyP G.E → ∀ h1 G1, Inv 4 h1 G1 → F26.wk11 ⟨e, 0, none⟩ who draw h1 K) :
    CallsH Tryz.prog 26 [ptrV e, .int .i64 who, .int .i64 draw] h K := by
  refine F26.spec _ _ _ h K ?_
  unfold F26.w F26.J0
  refine bcase_of (fun q => hOut (.inl (of_decide_eq_true q)) h (Only.refl _ _)) fun q => ?_
  have q := of_decide_eq_false q
  refine workers27 W (ldI_of rfl (bcase_of (fun p => hOut (.inr (.inl (of_decide_eq_true p))) h (Only.refl _ _)) fun p => ?_))
  have p : ¬ (G.P.ws.length : Int) ≤ who := of_decide_eq_false p
  refine pending78 W.I (fun a h1 O1 => ldB_of rfl ?_) fun a h1 O1 => ldB_of rfl (hOut (.inr (.inr a)) h1 O1)
  rw [Bool.not_true, bcase_false]
  unfold F26.wk4 F26.Jk4
  have main : ∀ (d i : Nat) (hh : Heap) (G1 : EG), d + i = 4 → Inv i hh G1 → F26.wL4 (d + 1) ⟨e, 0, none⟩ who draw (i : Int) hh K := by
    intro d
    induction d with
    | zero =>
      intro i hh G1 hi I
      unfold F26.wL4 F26.JL4
      rw [decide_eq_false (by omega), bcase_false]
      have ei : i = 4 := by omega
      subst ei
      exact hE (by omega) (by omega) a hh G1 I
    | succ d ih =>
      intro i hh G1 hi I
      unfold F26.wL4 F26.JL4
      rw [decide_eq_true (by omega), bcase_true]
      have hi4 : i < 4 := by omega
      have W1 := hW I
      simp only [add_mk]
      rw [show 0 + 3 + Int.toNat (i : Int) * 24 = 3 + 24 * i by omega]
      have nx : ∀ {h2 G2}, Inv (i + 1) h2 G2 → F26.wL4 (d + 1) ⟨e, 0, none⟩ who draw (IntKind.wrap .i64 ((i : Int) + 1)) h2 K := fun {h2 G2} I2 => by
        rw [wr_s hi4]
        exact ih (i + 1) h2 G2 (by omega) I2
      refine ⟨by omega, by omega, ldB_of (W1.I.pend hi4 rfl) (bcase_of (fun pe => ?_) fun pe => nx (hn hi4 I pe))⟩
      refine ldI_of (W1.I.kind hi4 (by omega)) (ldI_of (W1.I.op hi4 (by omega)) (ldI_of (W1.I.dst hi4 (by omega)) (ldI_of (W1.I.ca hi4 (by omega)) (ldI_of (W1.I.cb hi4 (by omega)) (ldI_of (W1.I.cc hi4 (by omega)) (ldI_of (W1.I.mask hi4 (by omega)) ?_))))))
      refine step79 (c := (G1.E.ses i).cal) fun h2 O2 => ⟨_, rfl, ?_⟩
      refine dynK_go (go_step _) ?_
      exact hs hi4 (hO I O2) pe fun b h3 G3 I3 => ldB_of rfl (nx I3)
  exact ⟨_, main 4 0 h1 G (by omega) (h0 h1 O1)⟩
def PickR (w : Nat) (G G' : EG) : Prop := ∃ G1 N' P' L' k, Coll G G1 ∧ PoolOk G1.n G1.fo G1.N G1.P ∧ G' = { G1 with N := N', P := P', L := L' } ∧ Picked G1.n G1.fo G1.room G1.N N' G1.P P' ∧ G1.P.ws[w]? = some k ∧ (phi G1.n N' P' + 1 ≤ phi G1.n G1.N G1.P ∨ (k.job = 0 ∧ k.q = [] ∧ WsEq G1.P.ws P'.ws))
theorem EWd.pool {N' : List (Option Nd)} {P' : PS} {L' : List Nat} (W : EWd h e G) (W' : Wld h' G.E.p G.E.s G.n G.room G.fo G.gg G.off N' P' L') (E : Ex G.N N') (S : Beside G.E.p G.P G.L h P' L' h') :
    EWd h' e { G with N := N', P := P', L := L' } ∧ Eside e G h { G with N := N', P := P', L := L' } h' := by
  have lt := W.lt
  have O' := S.O (pbl G.E.p G.P ++ G.L) (fun b hb => List.mem_append.2 (.inl (mem_pbl.2 hb))) fun b hb => List.mem_append.2 (.inr hb)
  have spare : ∀ {b}, b ∉ G.L → ¬ PBl G.E.p G.P b → b ∉ pbl G.E.p G.P ++ G.L := fun h1 h2 hm => by
    rcases List.mem_append.1 hm with q | q
    · exact h2 (mem_pbl.1 q)
    · exact h1 q
  have nL : ∀ {b}, b ∈ ebl e G → b ∉ G.L → b ∉ L' := fun hb hn hm => by
    rcases S.F _ hm with q | q
    · exact hn q
    · have := lt _ hb; omega
  have nP : ∀ {b}, b ∈ ebl e G → ¬ PBl G.E.p G.P b → ¬ PBl G.E.p P' b := fun hb hn hm => by
    rcases S.B _ hm with q | q
    · exact hn q
    · have := lt _ hb; omega
  have me : e ∈ ebl e G := mem_ebl.2 (.inl rfl)
  have mB : ∀ b ∈ G.B, b ∈ ebl e G := fun b hb => mem_ebl.2 (.inr (.inr (.inl hb)))
  refine ⟨⟨W', W.R.only O' fun b hb hm => (spare (W.dB b hm).1 (W.dB b hm).2) hb, W.I.only O' (spare W.de.1 W.de.2.1), W.C, ⟨nL me W.de.1, nP me W.de.2.1, W.de.2.2⟩, fun b hb => ⟨nL (mB b hb) (W.dB b hb).1, nP (mB b hb) (W.dB b hb).2⟩, fun i hi r hr ht => E.isN (W.rg i hi r hr ht), W.r0, W.mq, W.po⟩, ⟨fun T hT => S.O T (fun b hb => hT b (mem_ebl.2 (.inr (.inr (.inr hb))))) fun b hb => hT b (mem_ebl.2 (.inr (.inl hb))), fun b hb => ?_⟩⟩
  rcases mem_ebl.1 hb with q | q | q | q
  · exact .inl (mem_ebl.2 (.inl q))
  · rcases S.F b q with q | q
    · exact .inl (mem_ebl.2 (.inr (.inl q)))
    · exact .inr q
  · exact .inl (mem_ebl.2 (.inr (.inr (.inl q))))
  · rcases S.B b q with q | q
    · exact .inl (mem_ebl.2 (.inr (.inr (.inr q))))
    · exact .inr q
theorem pick_end (mr : MRspec C) (W : EWd h e G) (hC : C (cntN G.N) G.room) (hM : G.M ≤ LB / 1000) {draw : Int} {w : Nat} (hw : w < G.P.ws.length)
    (hK : ∀ h' G', EWd h' e G' → Eside e G h G' h' → PickR w G G' → K (.bool true) h') : F26.wk11 ⟨e, 0, none⟩ (w : Int) draw h K := by
  unfold F26.wk11 F26.Jk11
  refine mr W hC hM fun h1 G1 W1 C1 S1 => ⟨rfl, ?_⟩
  simp only [add_mk, Nat.zero_add]
  refine ldP_of W1.I.p ?_
  have hl : (G1.P.ws.length : Int) = (G.P.ws.length : Int) := by rw [C1.P]
  refine wld_pick W1.W (who := (w : Int)) (fun q => by omega) fun h2 L2 N2 P2 b w' k ew hk W2 Pk _ hph B2 => ldB_of rfl ?_
  have ew : w' = w := by omega
  subst ew
  obtain ⟨W3, S3⟩ := W1.pool W2 Pk.ex B2
  exact hK h2 _ W3 (S1.trans S3) ⟨G1, N2, P2, L2, k, C1, W1.W.Ok, rfl, Pk, hk, hph⟩
def VarR (i d : Nat) (G G' : EG) (er : Int) : Prop := ∃ G1 N2 L2 r er' f', Coll G G1 ∧ MkRel G1.room G1.N (G1.gg (G.E.ses i).cal.mask) 0 1 N2 r er' ∧ er = (er' : Int) ∧ G' = if er' = 0 then setG (stoG G1 N2 L2) i d r f' else stoG G1 N2 L2
theorem e_variable (mr : MRspec C) (W : EWd h e G) {i d : Nat} (hi : i < 4) (hC : C (cntN G.N) G.room) (hM : G.M + 2000 ≤ LB / 1000) (hv : (G.E.ses i).cal.mask < G.n) (hd : d < 6) (ed : (G.E.ses i).cal.dst = (d : Int))
    (hK : ∀ h' G' (er : Int), EWd h' e G' → Eside e G h G' h' → VarR i d G G' er → K (.int .i64 er) h') : CallsH Tryz.prog 165 [ptrV e, sesP e i] h K := by
  have hLB : LB = 140737488355328 := rfl
  refine F165.spec _ _ h K ?_
  unfold F165.w F165.J0
  refine mr W hC (by omega) fun h1 G1 W1 C1 S1 => ⟨rfl, ?_⟩
  simp only [add_mk, Nat.zero_add]
  have mq := W.mq i hi
  refine ldP_of W1.I.s (ldI_of (n := ((G.E.ses i).cal.mask : Int)) (by rw [W1.I.mask hi (by omega), C1.E]) ?_)
  rw [wrap_i64 (by omega) (by omega)]
  have hv1 : (G.E.ses i).cal.mask < G1.n := by rw [C1.n]; exact hv
  have pg := (W1.po.1 _ hv1).1
  refine sto_var W1.W.S hv1 pg fun h2 L2 N2 r er R S2 O2 F2 => ⟨_, _, rfl, ?_⟩
  have R : MkRel G1.room G1.N (G1.gg (G.E.ses i).cal.mask) 0 1 N2 r er := R
  obtain ⟨E2, e2, -⟩ := mk_ex R
  obtain ⟨W2, T2⟩ := W1.sto S2 E2 O2 F2
  rcases e2 with q | q
  · subst q
    rw [show (((0 : Nat) : Int) == 0) = true from rfl, bcase_true]
    have hr : isN N2 r := by
      have e0 : lvl G1.n G1.N 0 = G1.n := by unfold lvl; rw [if_pos (by omega)]
      exact (mk_node (f := G1.fo) W1.W.S.ok.1 W2.W.S.ok.1 (a := 0) (b := 1) (.inl (by omega)) (.inl (by omega)) (show _ < lvl G1.n G1.N 0 by rw [e0]; exact pg) R).2.1
    have ed1 : ((stoG G1 N2 L2).E.ses i).cal.dst = (d : Int) := by show (G1.E.ses i).cal.dst = _; rw [C1.E]; exact ed
    have hm1 : (stoG G1 N2 L2).M + 1 ≤ LB := by show G1.M + 1 ≤ LB; have := C1.M.2; omega
    refine e_sets W2 hi hd ed1 hr hm1 fun h3 f3 W3 T3 => ⟨rfl, hK h3 _ _ W3 ((S1.trans T2).trans T3) ⟨G1, N2, L2, r, 0, f3, C1, R, rfl, by rw [if_pos rfl]⟩⟩
  · subst q
    rw [show (((60 : Nat) : Int) == 0) = false from rfl, bcase_false]
    exact hK h2 _ _ W2 (S1.trans T2) ⟨G1, N2, L2, r, 60, G1.f, C1, R, rfl, by rw [if_neg (by omega)]⟩
end
end
section
namespace F42
def T : Hint := ⟨[(2, [0, 3]), (5, [0, 3, 4]), (8, [0])], []⟩
noncomputable def body : Code := (Tryz.f42.body).getD .skip
noncomputable def en (S : Stop) (p : List Nat) (κ : XK) : Fr → Heap → Prop := E Tryz.prog X T S (sub body p) κ
noncomputable def ln (S : Stop) (p : List Nat) (κ : XK) (n : Nat) : Fr → Heap → Prop := loopN S (E Tryz.prog X T S (sub body p)) (cutQ T (sub body p)) κ n
def fn (K : KK) : XK := fin Tryz.prog Tryz.f42.results.toList K
noncomputable def c0 (S : Stop) (K : KK) : XK := seqN S (cutQ T (sub body [1, 1])) (en S [1, 1] (fn K)) (fn K)
noncomputable def c1 (S : Stop) (K : KK) : XK := blockN 0 (c0 S K)
noncomputable def c2 (S : Stop) (n2 : Nat) (K : KK) : XK := backN S (cutQ T (sub body [1, 0, 1, 0, 0])) (ln S [1, 0, 1, 0, 0] (c1 S K) n2) (c1 S K)
noncomputable def c3 (S : Stop) (n2 : Nat) (K : KK) : XK := seqN S (cutQ T (sub body [1, 0, 1, 0, 0, 1, 1])) (en S [1, 0, 1, 0, 0, 1, 1] (c2 S n2 K)) (c2 S n2 K)
noncomputable def c4 (S : Stop) (n2 : Nat) (K : KK) : XK := blockN 1 (c3 S n2 K)
noncomputable def c5 (S : Stop) (n2 : Nat) (K : KK) : XK := blockN 2 (c4 S n2 K)
noncomputable def c6 (S : Stop) (n2 : Nat) (n5 : Nat) (K : KK) : XK := backN S (cutQ T (sub body [1, 0, 1, 0, 0, 1, 0, 0, 1, 0, 0])) (ln S [1, 0, 1, 0, 0, 1, 0, 0, 1, 0, 0] (c5 S n2 K) n5) (c5 S n2 K)
def f2 (a : Addr) (b : Int) : Fr := [(0, (.pointer (some a))), (3, (.int .i64 b))]
def f5 (a : Addr) (b c : Int) : Fr := [(0, (.pointer (some a))), (3, (.int .i64 b)), (4, (.int .i64 c))]
def f8 (a : Addr) : Fr := [(0, (.pointer (some a)))]
def J0 (k2 : Addr → Int → Heap → Prop) (a : Addr) (h : Heap) (_K : KK) : Prop :=
  k2 a (0 : Int) h
theorem E0 (S : Stop) (a : Addr) (h : Heap) (K : KK) : (E Tryz.prog X T S body (fin Tryz.prog Tryz.f42.results.toList K) (args0 0 [(.pointer (some a))]) h) = J0 (fun a b h => S (en S [1, 0, 1] (c0 S K)) (f2 a b) h) a h K := by kernel_rfl
def Jk2 (lp2 : Addr → Int → Heap → Prop) (a : Addr) (b : Int) (h : Heap) (_K : KK) : Prop :=
  lp2 a b h
theorem Ek2 (S : Stop) (a : Addr) (b : Int) (h : Heap) (K : KK) : (en S [1, 0, 1] (c0 S K) (f2 a b) h) = Jk2 (fun a b h => ∃ n, S (ln S [1, 0, 1, 0, 0] (c1 S K) n) (f2 a b) h) a b h K := by kernel_rfl
def JL2 (k5 : Addr → Int → Int → Heap → Prop) (k8 : Addr → Heap → Prop) (a : Addr) (b : Int) (h : Heap) (_K : KK) : Prop :=
  bcase (decide (b < (1048576 : Int))) (Cl 99 [(.pointer (some a))] h (fun v1 h2 => ldB (some v1) (fun b3 => bcase b3 (k5 a b (0 : Int) h2) (k8 a h2)))) (k8 a h)
theorem EL2 (S : Stop) (n2 : Nat) (a : Addr) (b : Int) (h : Heap) (K : KK) : (en S [1, 0, 1, 0, 0] (c2 S n2 K) (f2 a b) h) = JL2 (fun a b c h => S (en S [1, 0, 1, 0, 0, 1, 0, 0, 1] (c4 S n2 K)) (f5 a b c) h) (fun a h => S (en S [1, 1] (fn K)) (f8 a) h) a b h K := by kernel_rfl
def Jk5 (lp5 : Addr → Int → Int → Heap → Prop) (a : Addr) (b c : Int) (h : Heap) (_K : KK) : Prop :=
  lp5 a b c h
theorem Ek5 (S : Stop) (n2 : Nat) (a : Addr) (b c : Int) (h : Heap) (K : KK) : (en S [1, 0, 1, 0, 0, 1, 0, 0, 1] (c4 S n2 K) (f5 a b c) h) = Jk5 (fun a b c h => ∃ n, S (ln S [1, 0, 1, 0, 0, 1, 0, 0, 1, 0, 0] (c5 S n2 K) n) (f5 a b c) h) a b c h K := by kernel_rfl
def JL5 (bk5 : Addr → Int → Int → Heap → Prop) (bk2 : Addr → Int → Heap → Prop) (a : Addr) (b c : Int) (h : Heap) (_K : KK) : Prop :=
  Cl 27 [(.pointer (some a))] h (fun v1 h2 => ldI .i64 (some v1) (fun n3 => bcase (decide (c < n3)) (Cl 26 [(.pointer (some a)), (.int .i64 c), (.int .i64 b)] h2 (fun v4 h5 => ldB (some v4) (fun _ => bk5 a b (IntKind.wrap .i64 (c + (1 : Int))) h5))) (bk2 a (IntKind.wrap .i64 (b + (1 : Int))) h2)))
theorem EL5 (S : Stop) (n2 : Nat) (n5 : Nat) (a : Addr) (b c : Int) (h : Heap) (K : KK) : (en S [1, 0, 1, 0, 0, 1, 0, 0, 1, 0, 0] (c6 S n2 n5 K) (f5 a b c) h) = JL5 (fun a b c h => S (ln S [1, 0, 1, 0, 0, 1, 0, 0, 1, 0, 0] (c5 S n2 K) n5) (f5 a b c) h) (fun a b h => S (ln S [1, 0, 1, 0, 0] (c1 S K) n2) (f2 a b) h) a b c h K := by kernel_rfl
def Jk8 (a : Addr) (h : Heap) (K : KK) : Prop :=
  Cl 99 [(.pointer (some a))] h (fun v1 h2 => ldB (some v1) (fun b3 => K (.bool (!b3)) h2))
theorem Ek8 (S : Stop) (a : Addr) (h : Heap) (K : KK) : (en S [1, 1] (fn K) (f8 a) h) = Jk8 a h K := by kernel_rfl
def wL5 (bk2 : Addr → Int → Heap → Prop) : Nat → Addr → Int → Int → Heap → KK → Prop
  | 0, _, _, _, _, _ => False
  | n + 1, a, b, c, h, K => JL5 (fun a b c h => wL5 bk2 n a b c h K) bk2 a b c h K
theorem eL5 (K : KK) (n2 : Nat) (bk2 : Addr → Int → Heap → Prop) (hb2 : ∀ (a : Addr) (b : Int) (h : Heap), (ln S0 [1, 0, 1, 0, 0] (c1 S0 K) n2 (f2 a b) h) = bk2 a b h) : ∀ (n : Nat) (a : Addr) (b c : Int) (h : Heap), (ln S0 [1, 0, 1, 0, 0, 1, 0, 0, 1, 0, 0] (c5 S0 n2 K) n (f5 a b c) h) = wL5 bk2 n a b c h K
  | 0, _, _, _, _ => rfl
  | n + 1, a, b, c, h => (EL5 S0 n2 n a b c h K).trans (cg2 (fun q0 q1 => JL5 q0 q1 a b c h K) (by funext a b c h; exact (fun a b c h => eL5 K n2 bk2 hb2 n a b c h) a b c h) (by funext a b h; exact hb2 a b h))
def wk5 (bk2 : Addr → Int → Heap → Prop) (a : Addr) (b c : Int) (h : Heap) (K : KK) : Prop :=
  Jk5 (fun a b c h => ∃ m, wL5 bk2 m a b c h K) a b c h K
theorem ek5 (K : KK) (n2 : Nat) (bk2 : Addr → Int → Heap → Prop) (hb2 : ∀ (a : Addr) (b : Int) (h : Heap), (ln S0 [1, 0, 1, 0, 0] (c1 S0 K) n2 (f2 a b) h) = bk2 a b h) (a : Addr) (b c : Int) (h : Heap) : (en S0 [1, 0, 1, 0, 0, 1, 0, 0, 1] (c4 S0 n2 K) (f5 a b c) h) = wk5 bk2 a b c h K := (Ek5 S0 n2 a b c h K).trans (cg1 (fun q0 => Jk5 q0 a b c h K) (by funext a b c h; exact ex_congr fun m => eL5 K n2 bk2 hb2 m a b c h))
def wk8 (a : Addr) (h : Heap) (K : KK) : Prop :=
  Jk8 a h K
theorem ek8 (K : KK) (a : Addr) (h : Heap) : (en S0 [1, 1] (fn K) (f8 a) h) = wk8 a h K := (Ek8 S0 a h K).trans (rfl)
def wL2 : Nat → Addr → Int → Heap → KK → Prop
  | 0, _, _, _, _ => False
  | n + 1, a, b, h, K => JL2 (fun a b c h => wk5 (fun a b h => wL2 n a b h K) a b c h K) (fun a h => wk8 a h K) a b h K
theorem eL2 (K : KK) : ∀ (n : Nat) (a : Addr) (b : Int) (h : Heap), (ln S0 [1, 0, 1, 0, 0] (c1 S0 K) n (f2 a b) h) = wL2 n a b h K
  | 0, _, _, _ => rfl
  | n + 1, a, b, h => (EL2 S0 n a b h K).trans (cg2 (fun q0 q1 => JL2 q0 q1 a b h K) (by funext a b c h; exact ek5 K n (fun a b h => wL2 n a b h K) (fun a b h => eL2 K n a b h) a b c h) (by funext a h; exact ek8 K a h))
def wk2 (a : Addr) (b : Int) (h : Heap) (K : KK) : Prop :=
  Jk2 (fun a b h => ∃ m, wL2 m a b h K) a b h K
theorem ek2 (K : KK) (a : Addr) (b : Int) (h : Heap) : (en S0 [1, 0, 1] (c0 S0 K) (f2 a b) h) = wk2 a b h K := (Ek2 S0 a b h K).trans (cg1 (fun q0 => Jk2 q0 a b h K) (by funext a b h; exact ex_congr fun m => eL2 K m a b h))
def w (a : Addr) (h : Heap) (K : KK) : Prop :=
  J0 (fun a b h => wk2 a b h K) a h K
theorem e0 (K : KK) (a : Addr) (h : Heap) : (E Tryz.prog X T S0 body (fin Tryz.prog Tryz.f42.results.toList K) (args0 0 [(.pointer (some a))]) h) = w a h K := (E0 S0 a h K).trans (cg1 (fun q0 => J0 q0 a h K) (by funext a b h; exact ek2 K a b h))
theorem hb : Tryz.f42.body = some body := by kernel_rfl
theorem ok : okCode T Tryz.f42.ntmps body = true := by kernel_rfl
theorem spec (a : Addr) (h : Heap) (K : KK) (H : w a h K) : Cl 42 [(.pointer (some a))] h K :=
  calls_of_E (T := T) Xok mix Tryz.func42 hb ok rfl (by rw [e0]; exact H)
end F42
namespace F99
def T : Hint := ⟨[(2, [0, 3])], []⟩
noncomputable def body : Code := (Tryz.f99.body).getD .skip
noncomputable def en (S : Stop) (p : List Nat) (κ : XK) : Fr → Heap → Prop := E Tryz.prog X T S (sub body p) κ
noncomputable def ln (S : Stop) (p : List Nat) (κ : XK) (n : Nat) : Fr → Heap → Prop := loopN S (E Tryz.prog X T S (sub body p)) (cutQ T (sub body p)) κ n
def fn (K : KK) : XK := fin Tryz.prog Tryz.f99.results.toList K
noncomputable def c0 (S : Stop) (K : KK) : XK := seqN S (cutQ T (sub body [1, 1])) (en S [1, 1] (fn K)) (fn K)
noncomputable def c1 (S : Stop) (K : KK) : XK := blockN 0 (c0 S K)
noncomputable def c2 (S : Stop) (n2 : Nat) (K : KK) : XK := backN S (cutQ T (sub body [1, 0, 1, 0, 0])) (ln S [1, 0, 1, 0, 0] (c1 S K) n2) (c1 S K)
def f2 (a : Addr) (b : Int) : Fr := [(0, (.pointer (some a))), (3, (.int .i64 b))]
def J0 (k2 : Addr → Int → Heap → Prop) (a : Addr) (h : Heap) (_K : KK) : Prop :=
  k2 a (0 : Int) h
theorem E0 (S : Stop) (a : Addr) (h : Heap) (K : KK) : (E Tryz.prog X T S body (fin Tryz.prog Tryz.f99.results.toList K) (args0 0 [(.pointer (some a))]) h) = J0 (fun a b h => S (en S [1, 0, 1] (c0 S K)) (f2 a b) h) a h K := by kernel_rfl
def Jk2 (lp2 : Addr → Int → Heap → Prop) (a : Addr) (b : Int) (h : Heap) (_K : KK) : Prop :=
  lp2 a b h
theorem Ek2 (S : Stop) (a : Addr) (b : Int) (h : Heap) (K : KK) : (en S [1, 0, 1] (c0 S K) (f2 a b) h) = Jk2 (fun a b h => ∃ n, S (ln S [1, 0, 1, 0, 0] (c1 S K) n) (f2 a b) h) a b h K := by kernel_rfl
def JL2 (bk2 : Addr → Int → Heap → Prop) (a : Addr) (b : Int) (h : Heap) (K : KK) : Prop :=
  bcase (decide (b < (4 : Int))) (Cl 56 [(.pointer (some a)), (.int .i64 b)] h (fun v1 h2 => ldB (some v1) (fun b3 => bcase b3 (K (.bool true) h2) (bk2 a (IntKind.wrap .i64 (b + (1 : Int))) h2)))) (K (.bool false) h)
theorem EL2 (S : Stop) (n2 : Nat) (a : Addr) (b : Int) (h : Heap) (K : KK) : (en S [1, 0, 1, 0, 0] (c2 S n2 K) (f2 a b) h) = JL2 (fun a b h => S (ln S [1, 0, 1, 0, 0] (c1 S K) n2) (f2 a b) h) a b h K := by kernel_rfl
def wL2 : Nat → Addr → Int → Heap → KK → Prop
  | 0, _, _, _, _ => False
  | n + 1, a, b, h, K => JL2 (fun a b h => wL2 n a b h K) a b h K
theorem eL2 (K : KK) : ∀ (n : Nat) (a : Addr) (b : Int) (h : Heap), (ln S0 [1, 0, 1, 0, 0] (c1 S0 K) n (f2 a b) h) = wL2 n a b h K
  | 0, _, _, _ => rfl
  | n + 1, a, b, h => (EL2 S0 n a b h K).trans (cg1 (fun q0 => JL2 q0 a b h K) (by funext a b h; exact (fun a b h => eL2 K n a b h) a b h))
def wk2 (a : Addr) (b : Int) (h : Heap) (K : KK) : Prop :=
  Jk2 (fun a b h => ∃ m, wL2 m a b h K) a b h K
theorem ek2 (K : KK) (a : Addr) (b : Int) (h : Heap) : (en S0 [1, 0, 1] (c0 S0 K) (f2 a b) h) = wk2 a b h K := (Ek2 S0 a b h K).trans (cg1 (fun q0 => Jk2 q0 a b h K) (by funext a b h; exact ex_congr fun m => eL2 K m a b h))
def w (a : Addr) (h : Heap) (K : KK) : Prop :=
  J0 (fun a b h => wk2 a b h K) a h K
theorem e0 (K : KK) (a : Addr) (h : Heap) : (E Tryz.prog X T S0 body (fin Tryz.prog Tryz.f99.results.toList K) (args0 0 [(.pointer (some a))]) h) = w a h K := (E0 S0 a h K).trans (cg1 (fun q0 => J0 q0 a h K) (by funext a b h; exact ek2 K a b h))
theorem hb : Tryz.f99.body = some body := by kernel_rfl
theorem ok : okCode T Tryz.f99.ntmps body = true := by kernel_rfl
theorem spec (a : Addr) (h : Heap) (K : KK) (H : w a h K) : Cl 99 [(.pointer (some a))] h K :=
  calls_of_E (T := T) Xok mix Tryz.func99 hb ok rfl (by rw [e0]; exact H)
end F99
namespace F53
def w (j : Addr) (l a b c d f g i : Int) (h : Heap) (K : KK) : Prop :=
  newK h (.cells #[(.int .i64 a), (.int .i64 b), (.int .i64 c), (.int .i64 d), (.int .i64 f), (.int .i64 g), (.int .u8 i)] 41) (fun b1 h2 => newK h2 (.cells #[(.int .i64 0), (.int .u64 0)] 76) (fun b3 h4 => ldI .i64 (rd h4 ((Addr.mk b1 0 none).add 0)) (fun n5 => ldI .i64 (rd h4 ((Addr.mk b1 0 none).add 1)) (fun n6 => ldI .i64 (rd h4 ((Addr.mk b1 0 none).add 2)) (fun n7 => ldI .i64 (rd h4 ((Addr.mk b1 0 none).add 3)) (fun n8 => ldI .i64 (rd h4 ((Addr.mk b1 0 none).add 4)) (fun n9 => ldI .i64 (rd h4 ((Addr.mk b1 0 none).add 5)) (fun n10 => ldI .u8 (rd h4 ((Addr.mk b1 0 none).add 6)) (fun n11 => Cl 24 [(.pointer (some j)), (.int .i64 l), (.agg #[(.int .i64 n5), (.int .i64 n6), (.int .i64 n7), (.int .i64 n8), (.int .i64 n9), (.int .i64 n10), (.int .u8 n11)])] h4 (fun v12 h13 => ldI .i64 (some v12) (fun n14 => bcase (n14 != (0 : Int)) (stK h13 ((Addr.mk b3 0 none).add 0) (.int .i64 0) (fun h15 => stK h15 ((Addr.mk b3 0 none).add 1) (.int .u64 0) (fun h16 => ldI .i64 (rd h16 ((Addr.mk b3 0 none).add 0)) (fun n17 => ldI .u64 (rd h16 ((Addr.mk b3 0 none).add 1)) (fun n18 => K (.tuple #[(.agg #[(.int .i64 n17), (.int .u64 n18)]), (.bool false)]) h16))))) (Cl 42 [(.pointer (some j))] h13 (fun v19 h20 => ldB (some v19) (fun b21 => bcase (!b21) (stK h20 ((Addr.mk b3 0 none).add 0) (.int .i64 0) (fun h22 => stK h22 ((Addr.mk b3 0 none).add 1) (.int .u64 0) (fun h23 => ldI .i64 (rd h23 ((Addr.mk b3 0 none).add 0)) (fun n24 => ldI .u64 (rd h23 ((Addr.mk b3 0 none).add 1)) (fun n25 => K (.tuple #[(.agg #[(.int .i64 n24), (.int .u64 n25)]), (.bool false)]) h23))))) (Cl 43 [(.pointer (some j)), (.int .i64 l)] h20 (fun v26 h27 => (∃ n28 : Int, ∃ n29 : Int, ∃ b30 : Bool, v26 = (.tuple #[(.agg #[(.int .i64 n28), (.int .u64 n29)]), (.bool b30)]) ∧ stK h27 ((Addr.mk b3 0 none).add 0) (.int .i64 n28) (fun h31 => stK h31 ((Addr.mk b3 0 none).add 1) (.int .u64 n29) (fun h32 => ldI .i64 (rd h32 ((Addr.mk b3 0 none).add 0)) (fun n33 => ldI .u64 (rd h32 ((Addr.mk b3 0 none).add 1)) (fun n34 => K (.tuple #[(.agg #[(.int .i64 n33), (.int .u64 n34)]), (.bool b30)]) h32)))))))))))))))))))))
theorem spec (j : Addr) (l a b c d f g i : Int) (h : Heap) (K : KK) (H : w j l a b c d f g i h K) : Cl 53 [(.pointer (some j)), (.int .i64 l), (.agg #[(.int .i64 a), (.int .i64 b), (.int .i64 c), (.int .i64 d), (.int .i64 f), (.int .i64 g), (.int .u8 i)])] h K :=
  cE Xok mix Tryz.func53 (by kernel_rfl) (by kernel_rfl) rfl (by kernel_rfl) H
end F53
namespace F40
def w (h : Heap) (K : KK) : Prop :=
  Cl 18 [(.int .i64 4), (.int .i64 16400), (.int .i64 2)] h (fun v1 h2 => (∃ p3 : Option Addr, ∃ n4 : Int, v1 = (.tuple #[(.pointer p3), (.int .i64 n4)]) ∧ Cl 18 [(.int .i64 9), (.int .i64 100), (.int .i64 2)] h2 (fun v5 h6 => (∃ p7 : Option Addr, ∃ n8 : Int, v5 = (.tuple #[(.pointer p7), (.int .i64 n8)]) ∧ bcase (n4 != (0 : Int)) (K (.bool false) h6) (bcase (Option.isNone p3) (K (.bool false) h6) (bcase (n8 != (40 : Int)) (K (.bool false) h6) (Cl 27 [(.pointer p3)] h6 (fun v9 h10 => ldI .i64 (some v9) (fun n11 => bcase (n11 != (2 : Int)) (K (.bool false) h10) (Cl 24 [(.pointer p3), (.int .i64 0), (.agg #[(.int .i64 1), (.int .i64 0), (.int .i64 1), (.int .i64 0), (.int .i64 0), (.int .i64 0), (.int .u8 2)])] h10 (fun v12 h13 => ldI .i64 (some v12) (fun n14 => Cl 24 [(.pointer p3), (.int .i64 0), (.agg #[(.int .i64 6), (.int .i64 0), (.int .i64 0), (.int .i64 0), (.int .i64 0), (.int .i64 0), (.int .u8 0)])] h13 (fun v15 h16 => ldI .i64 (some v15) (fun n17 => Cl 24 [(.pointer p3), (.int .i64 1), (.agg #[(.int .i64 4), (.int .i64 0), (.int .i64 0), (.int .i64 0), (.int .i64 0), (.int .i64 0), (.int .u8 0)])] h16 (fun v18 h19 => ldI .i64 (some v18) (fun n20 => bcase (n14 != (0 : Int)) (K (.bool false) h19) (bcase (n17 != (220 : Int)) (K (.bool false) h19) (bcase (n20 != (221 : Int)) (K (.bool false) h19) (Cl 56 [(.pointer p3), (.int .i64 0)] h19 (fun v21 h22 => ldB (some v21) (fun b23 => bcase (!b23) (K (.bool false) h22) (Cl 42 [(.pointer p3)] h22 (fun v24 h25 => ldB (some v24) (fun b26 => bcase (!b26) (K (.bool false) h25) (Cl 43 [(.pointer p3), (.int .i64 0)] h25 (fun v27 h28 => (∃ n29 : Int, ∃ n30 : Int, ∃ b31 : Bool, v27 = (.tuple #[(.agg #[(.int .i64 n29), (.int .u64 n30)]), (.bool b31)]) ∧ newK h28 (.cells #[(.int .i64 0), (.int .u64 0)] 76) (fun b32 h33 => stK h33 ((Addr.mk b32 0 none).add 0) (.int .i64 n29) (fun h34 => stK h34 ((Addr.mk b32 0 none).add 1) (.int .u64 n30) (fun h35 => Cl 28 [(.pointer p3), (.int .i64 0), (.int .i64 1)] h35 (fun v36 h37 => (∃ n38 : Int, ∃ b39 : Bool, v36 = (.tuple #[(.int .u32 n38), (.bool b39)]) ∧ bcase b31 (ldI .i64 (rd h37 ((Addr.mk b32 0 none).add 0)) (fun n40 => bcase (n40 == (0 : Int)) (bcase b39 (Cl 23 [(.pointer p3)] h37 (fun v41 h42 => ldP (some v41) (fun p43 => Cl 33 [(.int .i64 2)] h42 (fun v44 h45 => (∃ n46 : Int, ∃ n47 : Int, ∃ n48 : Int, ∃ n49 : Int, v44 = (.agg #[(.int .u64 n46), (.int .u64 n47), (.int .u64 n48), (.int .u64 n49)]) ∧ Cl 58 [(.pointer p43), (.int .u32 n38), (.agg #[(.int .u64 n46), (.int .u64 n47), (.int .u64 n48), (.int .u64 n49)])] h45 (fun v50 h51 => ldB (some v50) (fun b52 => bcase b52 (Cl 54 [(.pointer p3)] h51 (fun v53 h54 => ldI .i64 (some v53) (fun n55 => K (.bool (n55 == (1 : Int))) h54))) (K (.bool false) h51)))))))) (K (.bool false) h37)) (K (.bool false) h37))) (K (.bool false) h37)))))))))))))))))))))))))))))))))
theorem spec (h : Heap) (K : KK) (H : w h K) : Cl 40 [] h K :=
  cE Xok mix Tryz.func40 (by kernel_rfl) (by kernel_rfl) rfl (by kernel_rfl) H
end F40
end
section
theorem refu2_zero {n : Nat} {c : Cal} (h : refu2 n c = 0) : (c.kind = 3 → takesZ c.op ≠ 0) ∧ (c.kind = 1 → c.mask < n) ∧ (c.kind = 3 → c.op = 8 → c.mask < n) ∧ (c.kind = 3 → (c.op = 6 ∨ c.op = 7) → c.mask / 2 ^ n = 0) := by
  unfold refu2 at h
  split at h
  · cases h
  · rename_i a
    split at h
    · cases h
    · rename_i b
      split at h
      · cases h
      · rename_i d
        refine ⟨fun k t => a ⟨k, t⟩, fun k => ?_, fun k o => ?_, fun k o => ?_⟩
        · exact Nat.lt_of_not_le fun q => b ⟨.inl k, q⟩
        · exact Nat.lt_of_not_le fun q => b ⟨.inr ⟨k, o⟩, q⟩
        · exact Classical.byContradiction fun q => d ⟨k, o, q⟩
theorem refu_zero {n : Nat} {x : Ses} {c : Cal} (h : refu n x c = 0) : (1 ≤ c.kind ∧ c.kind ≤ 8) ∧ (wrK c.kind → isR c.dst) ∧ rdsOk x c ∧ refu2 n c = 0 := by
  unfold refu at h
  split at h
  · cases h
  · rename_i a
    split at h
    · cases h
    · rename_i b
      split at h
      · cases h
      · rename_i d
        exact ⟨Classical.not_not.1 a, fun w => Classical.byContradiction fun q => b ⟨w, q⟩, Classical.not_not.1 d, h⟩
section
variable {h h' : Heap} {e : Nat} {G G' : EG} {K : Value → Heap → Prop} {C : Nat → Nat → Prop}
def clrG (G : EG) (i d : Nat) (f' : Int → Int) : EG := { G with E := G.E.put i (clrS (G.E.ses i) d), M := G.M + 1, f := f' }
theorem e_clears {i d : Nat} (W : EWd h e G) (hi : i < 4) (hd : d < 6) (ed : (G.E.ses i).cal.dst = (d : Int)) (hM : G.M ≤ LB)
    (hK : ∀ h' f', EWd h' e (clrG G i d f') → Eside e G h (clrG G i d f') h' → K (.tuple #[]) h') : CallsH Tryz.prog 166 [ptrV e, sesP e i] h K := by
  refine clears166 W.I W.R W.de.2.2 hi hd ed hM fun h' I' R' O' => ?_
  have C' := cnr_clr W.C hi hd
  have hS : ∀ b ∈ e :: G.B, b ∉ G.L ∧ ¬ PBl G.E.p G.P b := fun b hb => by
    rcases List.mem_cons.1 hb with q | q
    · subst q; exact ⟨W.de.1, W.de.2.1⟩
    · exact W.dB b q
  refine hK h' _ ⟨W.W.only O' (fun b hb => (hS b hb).1) (fun b hb => (hS b hb).2), R', I', C', W.de, W.dB, fun k hk r hr ht => ?_, fun k hk r hr ht => ?_, fun k hk => ?_, W.po⟩ (Eside.some O' (fun b hb => ?_) fun b hb => hb)
  · have ht : ((G.E.put i (clrS (G.E.ses i) d)).ses k).there r = true := ht
    show isN G.N (((G.E.put i (clrS (G.E.ses i) d)).ses k).hnd r)
    rw [ses_put] at ht ⊢
    by_cases q : k = i
    · rw [if_pos q] at ht ⊢
      by_cases w : r = d
      · subst w
        rw [show (clrS (G.E.ses i) r).there r = false from upN_eq] at ht
        cases ht
      · rw [show (clrS (G.E.ses i) d).hnd r = (G.E.ses i).hnd r from upN_ne w]
        rw [show (clrS (G.E.ses i) d).there r = (G.E.ses i).there r from upN_ne w] at ht
        exact W.rg i hi r hr ht
    · rw [if_neg q] at ht ⊢
      exact W.rg k hk r hr ht
  · have ht : ((G.E.put i (clrS (G.E.ses i) d)).ses k).there r = false := ht
    show ((G.E.put i (clrS (G.E.ses i) d)).ses k).hnd r = 0
    rw [ses_put] at ht ⊢
    by_cases q : k = i
    · rw [if_pos q] at ht ⊢
      by_cases w : r = d
      · subst w
        exact upN_eq
      · rw [show (clrS (G.E.ses i) d).hnd r = (G.E.ses i).hnd r from upN_ne w]
        rw [show (clrS (G.E.ses i) d).there r = (G.E.ses i).there r from upN_ne w] at ht
        exact W.r0 i hi r hr ht
    · rw [if_neg q] at ht ⊢
      exact W.r0 k hk r hr ht
  · show ((G.E.put i (clrS (G.E.ses i) d)).ses k).cal.mask < 256
    rw [ses_put]
    by_cases q : k = i
    · rw [if_pos q]; exact W.mq i hi
    · rw [if_neg q]; exact W.mq k hk
  · rcases List.mem_cons.1 hb with q | q
    · subst q; exact mem_ebl.2 (.inl rfl)
    · exact mem_ebl.2 (.inr (.inr (.inl q)))
def LayR (i : Nat) (G G' : EG) : Prop := ∃ d : Nat, d < 6 ∧ (G.E.ses i).cal.dst = (d : Int) ∧
  (((G.E.ses i).cal.kind = 1 ∧ ∃ G1 er, VarR i d G G1 er ∧ G' = ansG G1 i er 0) ∨
   ((G.E.ses i).cal.kind = 2 ∧ ∃ f', G' = ansG (setG G i d (min 1 (G.E.ses i).cal.mask) f') i 0 0) ∨
   ((G.E.ses i).cal.kind = 6 ∧ ∃ f', G' = ansG (clrG G i d f') i 0 0))
theorem VarR.ans {i d : Nat} {er : Int} (R : VarR i d G G' er) : G'.E.ans = G.E.ans := by
  obtain ⟨G1, N2, L2, r, e', f', C1, -, -, e⟩ := R
  subst e
  have : G1.E.ans = G.E.ans := by rw [C1.E]
  split
  · exact this
  · exact this
theorem e_lays (mr : MRspec C) (W : EWd h e G) {i : Nat} (hi : i < 4) (hC : C (cntN G.N) G.room) (hM : G.M + 2000 ≤ LB / 1000) (ha : G.E.ans < 1000000000) (hk : (G.E.ses i).cal.kind = 1 ∨ (G.E.ses i).cal.kind = 2 ∨ (G.E.ses i).cal.kind = 6) (hr : refu G.n (G.E.ses i) (G.E.ses i).cal = 0)
    (hK : ∀ h' G', EWd h' e G' → Eside e G h G' h' → LayR i G G' → K (.bool true) h') : CallsH Tryz.prog 123 [ptrV e, sesP e i] h K := by
  have hLB : LB = 140737488355328 := rfl
  obtain ⟨-, z2, -, z4⟩ := refu_zero hr
  obtain ⟨-, z5, -, -⟩ := refu2_zero z4
  have hd := z2 (by unfold wrK; omega)
  obtain ⟨d, ed⟩ : ∃ d : Nat, (G.E.ses i).cal.dst = (d : Int) := ⟨(G.E.ses i).cal.dst.toNat, by unfold isR at hd; omega⟩
  have d6 : d < 6 := by unfold isR at hd; omega
  refine F123.spec _ _ h K ?_
  unfold F123.w F123.J0
  simp only [add_mk, Nat.zero_add]
  refine ldI_of (W.I.kind hi (by omega)) ?_
  rcases hk with k | k | k
  · rw [k, show ((1 : Int) == 1) = true from rfl, bcase_true]
    refine e_variable mr W hi hC hM (z5 k) d6 ed fun h1 G1 er W1 S1 V => ldI_of rfl ?_
    unfold F123.wk8 F123.Jk8
    refine e_answers (n := 0) W1 hi (by rw [V.ans]; exact ha) fun h2 W2 S2 => ⟨rfl, ?_⟩
    exact hK h2 _ W2 (S1.trans S2) ⟨d, d6, ed, .inl ⟨k, G1, er, V, rfl⟩⟩
  · rw [k, show ((2 : Int) == 1) = false from rfl, bcase_false, show ((2 : Int) == 6) = false from rfl, bcase_false]
    have mq := W.mq i hi
    refine ldI_of (W.I.mask hi (by omega)) ?_
    have em : (IntKind.wrap .u32 (if (1 : Int) < ((G.E.ses i).cal.mask : Int) then (1 : Int) else ((G.E.ses i).cal.mask : Int))) = ((min 1 (G.E.ses i).cal.mask : Nat) : Int) := by
      by_cases q : 1 < (G.E.ses i).cal.mask
      · rw [if_pos (by omega), show min 1 (G.E.ses i).cal.mask = 1 by omega]; rfl
      · rw [if_neg (by omega), show min 1 (G.E.ses i).cal.mask = (G.E.ses i).cal.mask by omega]
        exact wrap32 (by omega)
    rw [em]
    refine e_sets W hi d6 ed (.inl (by omega)) (by omega) fun h1 f1 W1 S1 => ⟨rfl, ?_⟩
    unfold F123.wk8 F123.Jk8
    refine e_answers (n := 0) W1 hi ha fun h2 W2 S2 => ⟨rfl, ?_⟩
    exact hK h2 _ W2 (S1.trans S2) ⟨d, d6, ed, .inr (.inl ⟨k, f1, rfl⟩)⟩
  · rw [k, show ((6 : Int) == 1) = false from rfl, bcase_false, show ((6 : Int) == 6) = true from rfl, bcase_true]
    refine e_clears W hi d6 ed (by omega) fun h1 f1 W1 S1 => ⟨rfl, ?_⟩
    unfold F123.wk8 F123.Jk8
    refine e_answers (n := 0) W1 hi ha fun h2 W2 S2 => ⟨rfl, ?_⟩
    exact hK h2 _ W2 (S1.trans S2) ⟨d, d6, ed, .inr (.inr ⟨k, f1, rfl⟩)⟩
theorem pending99 (W : EWd h e G) (hT : anyP G.E → K (.bool true) h) (hF : ¬ anyP G.E → K (.bool false) h) : CallsH Tryz.prog 99 [ptrV e] h K := by
  refine F99.spec _ h K ?_
  unfold F99.w F99.J0 F99.wk2 F99.Jk2
  have main : ∀ (d k : Nat), d + k = 4 → (∀ j, j < k → (G.E.ses j).pend = false) → F99.wL2 (d + 1) ⟨e, 0, none⟩ (k : Int) h K := by
    intro d
    induction d with
    | zero =>
      intro k hk hb
      unfold F99.wL2 F99.JL2
      rw [decide_eq_false (by omega), bcase_false]
      refine hF fun ⟨j, hj, hp⟩ => ?_
      rw [hb j (by omega)] at hp
      cases hp
    | succ d ih =>
      intro k hk hb
      unfold F99.wL2 F99.JL2
      rw [decide_eq_true (by omega), bcase_true]
      refine pending56 W.I (fun q => by omega) fun k' hk' ek => ldB_of rfl (bcase_of (fun p => ?_) fun p => ?_)
      · exact hT ⟨k', hk', p⟩
      · rw [wr_s (by omega)]
        refine ih (k + 1) (by omega) fun j hj => ?_
        by_cases q : j = k
        · rw [q, show k = k' by omega]; exact p
        · exact hb j (by omega)
  exact ⟨_, main 4 0 (by omega) fun j hj => by omega⟩
theorem fair42 {m : Nat} (Inv : Nat → Heap → EG → Prop) (J : Nat → Nat → Heap → EG → Prop) (nw : Nat) (hnw : nw ≤ 4) (h0 : Inv m h G) (hm : m < 1048576)
    (hW : ∀ {m h1 G1}, Inv m h1 G1 → EWd h1 e G1) (hJ : ∀ {m w h1 G1}, J m w h1 G1 → EWd h1 e G1 ∧ G1.P.ws.length = nw)
    (hS : ∀ {m h1 G1}, Inv m h1 G1 → anyP G1.E → J m 0 h1 G1)
    (hP : ∀ {m w h1 G1} {Q : Value → Heap → Prop} {draw : Int}, w < nw → J m w h1 G1 → (∀ b h2 G2, J m (w + 1) h2 G2 → Q (.bool b) h2) → CallsH Tryz.prog 26 [ptrV e, .int .i64 (w : Int), .int .i64 draw] h1 Q)
    (hE : ∀ {m h1 G1}, J m nw h1 G1 → ∃ m', m' < m ∧ Inv m' h1 G1)
    (hK : ∀ m' h1 G1, m' ≤ m → Inv m' h1 G1 → ¬ anyP G1.E → K (.bool true) h1) : CallsH Tryz.prog 42 [ptrV e] h K := by
  refine F42.spec _ h K ?_
  unfold F42.w F42.J0 F42.wk2 F42.Jk2
  have main : ∀ (d i m' : Nat) (xi : Int) (h1 : Heap) (G1 : EG), xi = (i : Int) → d + i = m + 1 → m' + i ≤ m → Inv m' h1 G1 → F42.wL2 (d + 1) ⟨e, 0, none⟩ xi h1 K := by
    intro d
    induction d with
    | zero => intro i m' xi h1 G1 exi hi hm'; omega
    | succ d ih =>
      intro i m' xi h1 G1 exi hi hm' I
      unfold F42.wL2 F42.JL2
      rw [decide_eq_true (by omega), bcase_true]
      refine pending99 (hW I) (fun a => ldB_of rfl ?_) fun a => ldB_of rfl ?_
      · rw [bcase_true]
        unfold F42.wk5 F42.Jk5
        have inner : ∀ (d2 w : Nat) (h2 : Heap) (G2 : EG), d2 + w = nw → J m' w h2 G2 → F42.wL5 (fun x0 x3 h => F42.wL2 (d + 1) x0 x3 h K) (d2 + 1) ⟨e, 0, none⟩ xi (w : Int) h2 K := by
          intro d2
          induction d2 with
          | zero =>
            intro w h2 G2 hw I2
            unfold F42.wL5 F42.JL5
            obtain ⟨W2, wl⟩ := hJ I2
            refine workers27 W2 (ldI_of rfl ?_)
            rw [decide_eq_false (by omega), bcase_false]
            have ew : w = nw := by omega
            subst ew
            obtain ⟨m2, lt, I3⟩ := hE I2
            exact ih (i + 1) m2 _ h2 G2 (by rw [exi, wrap_i64 (by omega) (by omega)]; omega) (by omega) (by omega) I3
          | succ d2 ih2 =>
            intro w h2 G2 hw I2
            unfold F42.wL5 F42.JL5
            obtain ⟨W2, wl⟩ := hJ I2
            refine workers27 W2 (ldI_of rfl ?_)
            rw [decide_eq_true (by omega), bcase_true]
            refine hP (by omega) I2 fun b h3 G3 I3 => ldB_of rfl ?_
            rw [wr_s (by omega)]
            exact ih2 (w + 1) h3 G3 (by omega) I3
        exact ⟨_, inner nw 0 h1 G1 (by omega) (hS I a)⟩
      · rw [bcase_false]
        unfold F42.wk8 F42.Jk8
        exact pending99 (hW I) (fun q => absurd q a) fun q => ldB_of rfl (hK m' h1 G1 (by omega) I a)
  exact ⟨_, main (m + 1) 0 m 0 h G rfl (by omega) (by omega) h0⟩
end
end
section
def SesR (n : Nat) (fo : Nat → Nat) (N : List (Option Nd)) (x x' : Ses) : Prop := ∃ d : Nat, d < 6 ∧ x.cal.dst = (d : Int) ∧
  ((x.cal.kind = 1 ∧ ∃ v, x' = ansS (setS x d v) 0 0 ∧ ∀ y, sm n fo N v y = y.testBit x.cal.mask) ∨
   (x.cal.kind = 2 ∧ x' = ansS (setS x d (min 1 x.cal.mask)) 0 0) ∨ (x.cal.kind = 6 ∧ x' = ansS (clrS x d) 0 0))
theorem SesR.pend {n : Nat} {fo : Nat → Nat} {N : List (Option Nd)} {x x' : Ses} (R : SesR n fo N x x') : x'.pend = false := by
  obtain ⟨d, -, -, ⟨-, v, e, -⟩ | ⟨-, e⟩ | ⟨-, e⟩⟩ := R <;> subst e <;> rfl
theorem SesR.to {n : Nat} {fo : Nat → Nat} {N N' : List (Option Nd)} {x x' : Ses} (R : SesR n fo N x x') (h : ∀ r, r < 6 → x'.there r = true → ∀ y, sm n fo N' (x'.hnd r) y = sm n fo N (x'.hnd r) y) : SesR n fo N' x x' := by
  obtain ⟨d, d6, ed, ⟨k, v, e, s⟩ | ⟨k, e⟩ | ⟨k, e⟩⟩ := R
  · refine ⟨d, d6, ed, .inl ⟨k, v, e, fun y => ?_⟩⟩
    subst e
    have := h d d6 upN_eq y
    rw [show (ansS (setS x d v) 0 0).hnd d = v from upN_eq] at this
    rw [this, s]
  · exact ⟨d, d6, ed, .inr (.inl ⟨k, e⟩)⟩
  · exact ⟨d, d6, ed, .inr (.inr ⟨k, e⟩)⟩
def nPd (E : Eng) (i : Nat) : Nat := sumN (fun k => if (E.ses k).pend = true then 1 else 0) i
structure Ran (G0 : EG) (i : Nat) (G : EG) : Prop where
  s : G.E.s = G0.E.s ∧ G.E.p = G0.E.p ∧ G.E.r = G0.E.r
  n : G.n = G0.n
  fo : G.fo = G0.fo
  gg : G.gg = G0.gg
  room : G.room = G0.room
  off : G.off = G0.off
  ws : G.P.ws.length = G0.P.ws.length
  jobs : G.P.jobs = []
  last : G.P.last = G0.P.last
  cnt : cntN G.N ≤ cntN G0.N + i
  M : G0.M ≤ G.M ∧ G.M ≤ G0.M + 1002 * i + 1000
  ans : G.E.ans = G0.E.ans + nPd G0.E i
  lo : ∀ k, k < i → k < 4 → ((G0.E.ses k).pend = true → SesR G0.n G0.fo G.N (G0.E.ses k) (G.E.ses k)) ∧ ((G0.E.ses k).pend = false → G.E.ses k = G0.E.ses k)
  hi : ∀ k, i ≤ k → G.E.ses k = G0.E.ses k
  old : ∀ k, k < 4 → ∀ r, r < 6 → (G0.E.ses k).there r = true → (G.E.ses k).there r = true → (G.E.ses k).hnd r = (G0.E.ses k).hnd r → ∀ y, sm G0.n G0.fo G.N ((G0.E.ses k).hnd r) y = sm G0.n G0.fo G0.N ((G0.E.ses k).hnd r) y
structure Easy (G : EG) : Prop where
  jobs : G.P.jobs = []
  kind : ∀ i, i < 4 → (G.E.ses i).pend = true → ((G.E.ses i).cal.kind = 1 ∨ (G.E.ses i).cal.kind = 2 ∨ (G.E.ses i).cal.kind = 6) ∧ refu G.n (G.E.ses i) (G.E.ses i).cal = 0
  room : cntN G.N + 5 < G.room
  M : G.M + 20000 ≤ LB / 1000
  ans : G.E.ans + 10 < 1000000000
theorem set_ans_ses {G : EG} {i d v n : Nat} {er : Int} {f' : Int → Int} : (ansG (setG G i d v f') i er n).E.ses = upN G.E.ses i (ansS (setS (G.E.ses i) d v) er n) := by
  show upN (upN G.E.ses i _) i (ansS (upN G.E.ses i (setS (G.E.ses i) d v) i) er n) = _
  rw [upN_upN, upN_eq]
theorem clr_ans_ses {G : EG} {i d n : Nat} {er : Int} {f' : Int → Int} : (ansG (clrG G i d f') i er n).E.ses = upN G.E.ses i (ansS (clrS (G.E.ses i) d) er n) := by
  show upN (upN G.E.ses i _) i (ansS (upN G.E.ses i (clrS (G.E.ses i) d) i) er n) = _
  rw [upN_upN, upN_eq]
section
variable {h h' : Heap} {e i : Nat} {G G0 G' : EG} {K : Value → Heap → Prop}
theorem Ran.refl (hj : G0.P.jobs = []) : Ran G0 0 G0 := ⟨⟨rfl, rfl, rfl⟩, rfl, rfl, rfl, rfl, rfl, rfl, hj, rfl, Nat.le_refl _, ⟨Nat.le_refl _, by omega⟩, rfl, fun k hk => by omega, fun k hk => rfl, fun k hk r hr ht ht' he y => rfl⟩
theorem Ran.mono (R : Ran G0 i G) {N' : List (Option Nd)} (hs : ∀ v, (∃ k r, k < 4 ∧ r < 6 ∧ (G.E.ses k).there r = true ∧ v = (G.E.ses k).hnd r) → ∀ y, sm G0.n G0.fo N' v y = sm G0.n G0.fo G.N v y) :
    (∀ k, k < i → k < 4 → ((G0.E.ses k).pend = true → SesR G0.n G0.fo N' (G0.E.ses k) (G.E.ses k)) ∧ ((G0.E.ses k).pend = false → G.E.ses k = G0.E.ses k)) ∧
    (∀ k, k < 4 → ∀ r, r < 6 → (G0.E.ses k).there r = true → (G.E.ses k).there r = true → (G.E.ses k).hnd r = (G0.E.ses k).hnd r → ∀ y, sm G0.n G0.fo N' ((G0.E.ses k).hnd r) y = sm G0.n G0.fo G0.N ((G0.E.ses k).hnd r) y) :=
  ⟨fun k hk h4 => ⟨fun p => ((R.lo k hk h4).1 p).to fun r hr ht => hs _ ⟨k, r, h4, hr, ht, rfl⟩, (R.lo k hk h4).2⟩, fun k hk r hr ht ht' he y => by
    rw [← he, hs _ ⟨k, r, hk, hr, ht', rfl⟩ y, he]
    exact R.old k hk r hr ht ht' he y⟩
theorem Ran.lay (Ea : Easy G0) (R : Ran G0 i G) (W : EWd h e G) (W' : EWd h' e G') (hi : i < 4) (hp : (G.E.ses i).pend = true) (L : LayR i G G') : Ran G0 (i + 1) G' := by
  have ei := R.hi i (Nat.le_refl _)
  have pi : (G0.E.ses i).pend = true := by rw [← ei]; exact hp
  obtain ⟨kd, rf⟩ := Ea.kind i hi pi
  have nP : nPd G0.E (i + 1) = nPd G0.E i + 1 := by unfold nPd; show sumN _ i + (if _ then 1 else 0) = _; rw [if_pos pi]
  obtain ⟨d, d6, ed, L⟩ := L
  have fin : ∀ (N' : List (Option Nd)) (x' : Ses), G'.E.ses = upN G.E.ses i x' → G'.N = N' → (∀ v, (∃ k r, k < 4 ∧ r < 6 ∧ (G.E.ses k).there r = true ∧ (G'.E.ses k).there r = true ∧ (G'.E.ses k).hnd r = (G.E.ses k).hnd r ∧ v = (G.E.ses k).hnd r) → ∀ y, sm G0.n G0.fo N' v y = sm G0.n G0.fo G.N v y) → SesR G0.n G0.fo N' (G0.E.ses i) x' →
      (G'.E.s = G.E.s ∧ G'.E.p = G.E.p ∧ G'.E.r = G.E.r) → G'.n = G.n → G'.fo = G.fo → G'.gg = G.gg → G'.room = G.room → G'.off = G.off → G'.P = G.P → cntN N' ≤ cntN G.N + 1 → (G.M ≤ G'.M ∧ G'.M ≤ G.M + 1002) → G'.E.ans = G.E.ans + 1 → Ran G0 (i + 1) G' := by
    intro N' x' es eN hs sr e1 e2 e3 e4 e5 e6 e7 e8 e9 e10
    have sk : ∀ k, G'.E.ses k = if k = i then x' else G.E.ses k := fun k => by rw [es]; rfl
    refine ⟨⟨e1.1.trans R.s.1, e1.2.1.trans R.s.2.1, e1.2.2.trans R.s.2.2⟩, e2.trans R.n, e3.trans R.fo, e4.trans R.gg, e5.trans R.room, e6.trans R.off, by rw [e7]; exact R.ws, by rw [e7]; exact R.jobs, by rw [e7]; exact R.last, ?_, ⟨Nat.le_trans R.M.1 e9.1, by have := R.M.2; omega⟩, by rw [e10, nP, R.ans]; omega, fun k hk h4 => ?_, fun k hk => ?_, fun k hk r hr ht ht' he y => ?_⟩
    · have := R.cnt; rw [eN]; omega
    · by_cases q : k = i
      · subst q
        rw [sk, if_pos rfl, eN]
        exact ⟨fun _ => sr, fun p => by rw [p] at pi; cases pi⟩
      · rw [sk, if_neg q, eN]
        have lk := R.lo k (by omega) h4
        refine ⟨fun p => (lk.1 p).to fun r hr ht => hs _ ⟨k, r, h4, hr, ht, ?_, ?_, rfl⟩, lk.2⟩
        · rw [sk, if_neg q]; exact ht
        · rw [sk, if_neg q]
    · rw [sk, if_neg (by omega)]
      exact R.hi k (by omega)
    · rw [eN]
      by_cases q : k = i
      · subst q
        have ht2 : (G.E.ses k).there r = true := by rw [ei]; exact ht
        have := hs _ ⟨k, r, hk, hr, ht2, ht', by rw [he, ei], rfl⟩ y
        rw [ei] at this
        rw [this]
        exact R.old k hk r hr ht ht2 (by rw [ei]) y
      · have ht2 : (G.E.ses k).there r = true := by rw [sk, if_neg q] at ht'; exact ht'
        have he2 : (G.E.ses k).hnd r = (G0.E.ses k).hnd r := by rw [sk, if_neg q] at he; exact he
        have := hs _ ⟨k, r, hk, hr, ht2, ht', by rw [he, he2], rfl⟩ y
        rw [he2] at this
        rw [this]
        exact R.old k hk r hr ht ht2 he2 y
  rcases L with ⟨k, G1, er, V, e⟩ | ⟨k, f', e⟩ | ⟨k, f', e⟩
  · obtain ⟨G2, N2, L2, v, er', f', C1, M, ee, e1⟩ := V
    obtain ⟨E2, he2, hfull⟩ := mk_ex M
    have er0 : er' = 0 := by
      rcases he2 with q | q
      · exact q
      · exfalso
        have h1 := (hfull q).1
        have h2 := C1.cnt
        have h3 := R.cnt
        have h4 := Ea.room
        rw [C1.room, R.room] at h1
        omega
    subst er0
    rw [if_pos rfl] at e1
    subst e1 ee e
    have mkn : (G.E.ses i).cal.mask < G2.n := by
      have z := (refu2_zero (refu_zero rf).2.2.2).2.1 (by rw [← ei]; exact k)
      rw [C1.n, R.n, ei]
      exact z
    have po := W.po
    rw [← C1.n, ← C1.fo, ← C1.gg] at po
    have pg := po.1 _ mkn
    have e0 : lvl G2.n G2.N 0 = G2.n := by unfold lvl; rw [if_pos (by omega)]
    have ok2 : NOk G2.n N2 := by
      have := W'.W.S.ok.1
      exact this
    have mn := mk_node (f := G2.fo) C1.ok ok2 (a := 0) (b := 1) (.inl (by omega)) (.inl (by omega)) (show _ < lvl G2.n G2.N 0 by rw [e0]; exact pg.1) M
    have n0 : G2.n = G0.n := C1.n.trans R.n
    have f0 : G2.fo = G0.fo := C1.fo.trans R.fo
    have hE : G2.E = G.E := C1.E
    have c2 := mk_cnt M
    have hc := C1.cnt
    have hM := C1.M
    have es : (ansG (setG (stoG G2 N2 L2) i d v f') i ((0 : Nat) : Int) 0).E.ses = upN G.E.ses i (ansS (setS (G.E.ses i) d v) 0 0) := by
      rw [← hE]
      exact set_ans_ses
    refine fin N2 _ es rfl (fun w ⟨k', r, h4, hr, ht, _, _, ew⟩ y => ?_) ⟨d, d6, (by rw [← ei]; exact ed), .inl ⟨(by rw [← ei]; exact k), v, (by rw [ei]), fun y => ?_⟩⟩ (by rw [← hE]; exact ⟨rfl, rfl, rfl⟩) C1.n C1.fo C1.gg C1.room C1.off C1.P (by omega) ⟨(by show G.M ≤ G2.M + 2; omega), (by show G2.M + 2 ≤ _; omega)⟩ (by rw [← hE]; rfl)
    · have hw : isN G2.N w := by rw [ew]; exact C1.rg k' h4 r hr ht
      rw [← n0, ← f0, E2.sm C1.ok hw, C1.ex.sm C1.ok hw]
    · rw [← n0, ← f0, mn.2.2.2 y, pg.2, sm_const (by omega), sm_const (by omega), ei]
      cases y.testBit (G0.E.ses i).cal.mask <;> rfl
  · subst e
    exact fin G.N _ set_ans_ses rfl (fun v _ y => rfl) ⟨d, d6, (by rw [← ei]; exact ed), .inr (.inl ⟨(by rw [← ei]; exact k), (by rw [ei])⟩)⟩ ⟨rfl, rfl, rfl⟩ rfl rfl rfl rfl rfl rfl (by omega) ⟨(by show G.M ≤ G.M + 2; omega), (by show G.M + 2 ≤ _; omega)⟩ rfl
  · subst e
    exact fin G.N _ clr_ans_ses rfl (fun v _ y => rfl) ⟨d, d6, (by rw [← ei]; exact ed), .inr (.inr ⟨(by rw [← ei]; exact k), (by rw [ei])⟩)⟩ ⟨rfl, rfl, rfl⟩ rfl rfl rfl rfl rfl rfl (by omega) ⟨(by show G.M ≤ G.M + 1; omega), (by show G.M + 1 ≤ _; omega)⟩ rfl
theorem anyP_not (h : ∀ k, k < 4 → (G.E.ses k).pend = false) : ¬ anyP G.E := fun ⟨k, hk, hp⟩ => by rw [h k hk] at hp; cases hp
theorem Ran.none (R : Ran G0 4 G) : ∀ k, k < 4 → (G.E.ses k).pend = false := fun k hk => by
  have := R.lo k hk hk
  cases q : (G0.E.ses k).pend with
  | true => exact (this.1 q).pend
  | false => rw [this.2 q]; exact q
theorem Ran.end {w : Nat} (R : Ran G0 4 G) (W : EWd h e G) (P : PickR w G G') (h1 : G.M + 1000 ≤ G0.M + 1002 * 4 + 1000) : Ran G0 4 G' := by
  obtain ⟨G1, N', P', L', k, C1, -, e, Pk, hk, hph⟩ := P
  subst e
  have hj : P'.jobs = [] := List.eq_nil_of_length_eq_zero (by have := alike_len Pk.alike; rw [C1.P, R.jobs] at this; simpa using this)
  have j1 : G1.P.jobs = [] := by rw [C1.P]; exact R.jobs
  have hE : G1.E = G.E := C1.E
  have n0 : G1.n = G0.n := C1.n.trans R.n
  have f0 : G1.fo = G0.fo := C1.fo.trans R.fo
  have cn : cntN N' ≤ cntN G1.N := by
    have := Pk.le2
    unfold psi at this
    rw [hj, j1] at this
    simpa using this
  have hc := C1.cnt
  have rc := R.cnt
  have hM := C1.M
  have rM := R.M
  have mo := R.mono (N' := N') fun v ⟨k', r, h4, hr, ht, ev⟩ y => by
    have hv : isN G1.N v := by rw [ev]; exact C1.rg k' h4 r hr ht
    rw [← n0, ← f0, Pk.ex.sm C1.ok hv, C1.ex.sm C1.ok hv]
  have he : ({ G1 with N := N', P := P', L := L' } : EG).E = G.E := hE
  exact ⟨(by rw [he]; exact R.s), n0, f0, C1.gg.trans R.gg, C1.room.trans R.room, C1.off.trans R.off, (by show P'.ws.length = _; rw [Pk.alike.2.1, C1.P]; exact R.ws), hj, (by show P'.last = _; rw [Pk.alike.1, C1.P]; exact R.last), (by show cntN N' ≤ _; omega), ⟨(by show G0.M ≤ G1.M; omega), (by show G1.M ≤ _; omega)⟩, (by rw [he]; exact R.ans), (by rw [he]; exact mo.1), (by rw [he]; exact R.hi), (by rw [he]; exact mo.2)⟩
end
end
section
section
variable {h h' : Heap} {e i : Nat} {G G0 G' : EG} {K : Value → Heap → Prop}
theorem nPd_zero {E : Eng} : ∀ i, (∀ k, k < i → (E.ses k).pend = false) → nPd E i = 0 := by
  intro i
  induction i with
  | zero => intro _; rfl
  | succ i ih =>
    intro hb
    unfold nPd sumN
    have : nPd E i = 0 := ih fun k hk => hb k (by omega)
    unfold nPd at this
    rw [this, hb i (by omega)]
    rfl
theorem Ran.idle (hj : G0.P.jobs = []) (hn : ¬ anyP G0.E) : Ran G0 4 G0 := by
  have np : ∀ k, k < 4 → (G0.E.ses k).pend = false := fun k hk => by
    cases q : (G0.E.ses k).pend with
    | true => exact absurd ⟨k, hk, q⟩ hn
    | false => rfl
  exact ⟨⟨rfl, rfl, rfl⟩, rfl, rfl, rfl, rfl, rfl, rfl, hj, rfl, by omega, ⟨Nat.le_refl _, by omega⟩, by rw [nPd_zero 4 np]; rfl, fun k hk h4 => ⟨fun p => (by rw [np k h4] at p; cases p), fun _ => rfl⟩, fun k hk => rfl, fun k hk r hr ht ht' he y => rfl⟩
theorem step_easy {k : Int} (h : k = 1 ∨ k = 2 ∨ k = 6) : stepN k = 123 := if_pos h
theorem nPd_le {E : Eng} : ∀ i, nPd E i ≤ i := by
  intro i
  induction i with
  | zero => exact Nat.le_refl _
  | succ i ih =>
    unfold nPd sumN
    unfold nPd at ih
    split <;> omega
theorem Ran.skip (R : Ran G0 i G) (hp : (G.E.ses i).pend = false) : Ran G0 (i + 1) G := by
  have ei := R.hi i (Nat.le_refl _)
  have pi : (G0.E.ses i).pend = false := by rw [← ei]; exact hp
  refine ⟨R.s, R.n, R.fo, R.gg, R.room, R.off, R.ws, R.jobs, R.last, by have := R.cnt; omega, ⟨R.M.1, by have := R.M.2; omega⟩, ?_, fun k hk h4 => ?_, fun k hk => R.hi k (by omega), R.old⟩
  · rw [R.ans]
    show _ = G0.E.ans + (nPd G0.E i + if (G0.E.ses i).pend = true then 1 else 0)
    rw [pi]
    rfl
  · by_cases q : k = i
    · subst q
      exact ⟨fun p => (by rw [p] at pi; cases pi), fun _ => ei⟩
    · exact R.lo k (by omega) h4
theorem pick_none {who draw : Int} (W : EWd h e G) (hN : who < 0 ∨ (G.P.ws.length : Int) ≤ who ∨ ¬ anyP G.E) (hK : ∀ h', Only [] h h' → K (.bool false) h') : CallsH Tryz.prog 26 [ptrV e, .int .i64 who, .int .i64 draw] h K := by
  refine F26.spec _ _ _ h K ?_
  unfold F26.w F26.J0
  refine bcase_of (fun q => hK h (Only.refl _ _)) fun q => ?_
  have q := of_decide_eq_false q
  refine workers27 W (ldI_of rfl (bcase_of (fun p => hK h (Only.refl _ _)) fun p => ?_))
  have p : ¬ (G.P.ws.length : Int) ≤ who := of_decide_eq_false p
  have no : ¬ anyP G.E := by rcases hN with z | z | z <;> first | omega | exact z
  exact pending78 W.I (fun a => absurd a no) fun _ h1 O1 => ldB_of rfl (hK h1 O1)
theorem easy_pick (W : EWd h e G0) (Ea : Easy G0) {w : Nat} (hw : w < G0.P.ws.length) {draw : Int} (hN : ¬ anyP G0.E → ∀ h', Only [] h h' → K (.bool false) h')
    (hY : anyP G0.E → ∀ h' G', EWd h' e G' → Eside e G0 h G' h' → Ran G0 4 G' → K (.bool true) h') : CallsH Tryz.prog 26 [ptrV e, .int .i64 (w : Int), .int .i64 draw] h K := by
  have eM := Ea.M
  refine pick26 W (fun q h1 O1 => hN ?_ h1 O1) (fun i h1 G1 => EWd h1 e G1 ∧ Eside e G0 h G1 h1 ∧ Ran G0 i G1 ∧ G1.M ≤ G0.M + 1002 * i) (fun h1 O1 => ⟨W.only0 O1, Eside.only0 O1, Ran.refl Ea.jobs, by omega⟩)
    (fun {i h1 G1 h2} I O => ⟨I.1.only0 O, I.2.1.trans (Eside.only0 O), I.2.2⟩) (fun I => I.1) (fun {i h1 G1} hi I hp => ⟨I.1, I.2.1, I.2.2.1.skip hp, by have := I.2.2.2; omega⟩) (fun {i h1 G1 Q} hi I hp hQ => ?_) (fun _ _ a h1 G1 I => ?_)
  · rcases q with q | q | q
    · omega
    · omega
    · exact q
  · obtain ⟨W1, S1, R1, M1⟩ := I
    have ei := R1.hi i (Nat.le_refl _)
    obtain ⟨kd, rf⟩ := Ea.kind i hi (by rw [← ei]; exact hp)
    have kd1 : (G1.E.ses i).cal.kind = 1 ∨ (G1.E.ses i).cal.kind = 2 ∨ (G1.E.ses i).cal.kind = 6 := by rw [ei]; exact kd
    rw [step_easy kd1]
    have rc := R1.cnt
    have rm := Ea.room
    have ra := R1.ans
    have na := nPd_le (E := G0.E) i
    have ea := Ea.ans
    refine e_lays mr_less W1 hi (by show cntN G1.N < G1.room; rw [R1.room]; omega) (by omega) (by omega) kd1 (by rw [ei, R1.n]; exact rf) fun h2 G2 W2 S2 L => ?_
    refine hQ true h2 G2 ⟨W2, S1.trans S2, Ran.lay Ea R1 W1 W2 hi hp L, ?_⟩
    obtain ⟨d, -, -, ⟨-, G3, er, ⟨G4, N2, L2, v, er', f', C1, -, -, e1⟩, e2⟩ | ⟨-, f', e2⟩ | ⟨-, f', e2⟩⟩ := L
    · have := C1.M
      have : G3.M ≤ G4.M + 2 := by rw [e1]; split <;> (first | exact Nat.le_refl _ | exact Nat.le_add_right _ _)
      have : G2.M = G3.M := by rw [e2]; rfl
      omega
    · have : G2.M = G1.M + 2 := by rw [e2]; rfl
      omega
    · have : G2.M = G1.M + 1 := by rw [e2]; rfl
      omega
  · obtain ⟨W1, S1, R1, M1⟩ := I
    have rc := R1.cnt
    have rm := Ea.room
    refine pick_end mr_less W1 (by show cntN G1.N < G1.room; rw [R1.room]; omega) (by omega) (by rw [R1.ws]; exact hw) fun h2 G2 W2 S2 P => ?_
    exact hY a h2 G2 W2 (S1.trans S2) (R1.end W1 P (by omega))
theorem easy_fair (W : EWd h e G0) (Ea : Easy G0) (hK : ∀ h' G', EWd h' e G' → Eside e G0 h G' h' → Ran G0 4 G' → K (.bool true) h') : CallsH Tryz.prog 42 [ptrV e] h K := by
  have wl := W.W.Ok.len
  refine fair42 (m := 1) (fun m h1 G1 => EWd h1 e G1 ∧ Eside e G0 h G1 h1 ∧ ((m = 1 ∧ G1 = G0) ∨ (m = 0 ∧ Ran G0 4 G1))) (fun m w h1 G1 => EWd h1 e G1 ∧ Eside e G0 h G1 h1 ∧ m = 1 ∧ ((w = 0 ∧ G1 = G0 ∧ anyP G0.E) ∨ (1 ≤ w ∧ Ran G0 4 G1))) G0.P.ws.length wl.2
    ⟨W, Eside.refl, .inl ⟨rfl, rfl⟩⟩ (by omega) (fun I => I.1) (fun {m w h1 G1} I => ⟨I.1, ?_⟩) (fun {m h1 G1} I a => ⟨I.1, I.2.1, ?_⟩) (fun {m w h1 G1 Q draw} hw I hQ => ?_) (fun {m h1 G1} I => ?_) (fun m' h1 G1 _ I a => ?_)
  · rcases I.2.2.2 with ⟨-, q, -⟩ | ⟨-, q⟩
    · rw [q]
    · exact q.ws
  · rcases I.2.2 with ⟨q1, q2⟩ | ⟨q1, q2⟩
    · subst q2; exact ⟨q1, .inl ⟨rfl, rfl, a⟩⟩
    · exact absurd a (anyP_not q2.none)
  · obtain ⟨W1, S1, m1, q⟩ := I
    rcases q with ⟨q1, q2, q3⟩ | ⟨q1, q2⟩
    · subst q2
      exact easy_pick W1 Ea hw (fun a => absurd q3 a) fun a h2 G2 W2 S2 R2 => hQ _ h2 G2 ⟨W2, S1.trans S2, m1, .inr ⟨by omega, R2⟩⟩
    · have no := anyP_not q2.none
      exact pick_none W1 (.inr (.inr no)) fun h2 O2 => hQ _ h2 G1 ⟨W1.only0 O2, S1.trans (Eside.only0 O2), m1, .inr ⟨by omega, q2⟩⟩
  · obtain ⟨W1, S1, m1, q⟩ := I
    rcases q with ⟨q1, -, -⟩ | ⟨q1, q2⟩
    · omega
    · exact ⟨0, by omega, W1, S1, .inr ⟨rfl, q2⟩⟩
  · obtain ⟨W1, S1, q⟩ := I
    rcases q with ⟨q1, q2⟩ | ⟨q1, q2⟩
    · subst q2
      exact hK h1 G1 W1 S1 (Ran.idle Ea.jobs a)
    · exact hK h1 G1 W1 S1 q2
end
end
section
section
variable {h h' : Heap} {e i : Nat} {G G0 G' : EG} {K : Value → Heap → Prop}
def bgnG (G : EG) (k : Nat) (c : Cal) : EG := { G with E := G.E.put k (bgnS (G.E.ses k) c) }
theorem e_begin {c : Cal} {i : Int} (W : EWd h e G) (hm : c.mask < 256)
    (hO : (i < 0 ∨ 4 ≤ i) → ∀ h', Only [] h h' → K (.int .i64 222) h')
    (hB : ∀ k : Nat, k < 4 → i = (k : Int) → (G.E.ses k).pend = true → ∀ h', Only [] h h' → K (.int .i64 220) h')
    (hR : ∀ k : Nat, k < 4 → i = (k : Int) → (G.E.ses k).pend = false → refu G.n (G.E.ses k) c ≠ 0 → ∀ h', Only [] h h' → K (.int .i64 (refu G.n (G.E.ses k) c)) h')
    (hK : ∀ k : Nat, k < 4 → i = (k : Int) → (G.E.ses k).pend = false → refu G.n (G.E.ses k) c = 0 → ∀ h', EWd h' e (bgnG G k c) → Eside e G h (bgnG G k c) h' → K (.int .i64 0) h') :
    CallsH Tryz.prog 24 [ptrV e, .int .i64 i, calV c] h K := by
  refine begin24 W.I W.W.S W.de.1 hm hO hB hR fun k hk ek hp hr h' I' O' => hK k hk ek hp hr h' ?_ (Eside.some O' (fun b hb => by simp at hb; subst hb; exact mem_ebl.2 (.inl rfl)) fun b hb => hb)
  have hs : ∀ q, ((bgnG G k c).E.ses q).there = (G.E.ses q).there ∧ ((bgnG G k c).E.ses q).hnd = (G.E.ses q).hnd := fun q => by
    show ((G.E.put k (bgnS (G.E.ses k) c)).ses q).there = _ ∧ ((G.E.put k (bgnS (G.E.ses k) c)).ses q).hnd = _
    rw [ses_put]
    by_cases z : q = k
    · rw [if_pos z, z]; exact ⟨rfl, rfl⟩
    · rw [if_neg z]; exact ⟨rfl, rfl⟩
  refine ⟨W.W.only O' (fun b hb => by simp at hb; subst hb; exact W.de.1) (fun b hb => by simp at hb; subst hb; exact W.de.2.1), W.R.only O' (fun b hb => by simp at hb; subst hb; exact W.de.2.2), I', fun x => ?_, W.de, W.dB, fun q hq r hr ht => ?_, fun q hq r hr ht => ?_, fun q hq => ?_, W.po⟩
  · rw [ind_same hs]; exact W.C x
  · rw [(hs q).2]; rw [(hs q).1] at ht; exact W.rg q hq r hr ht
  · rw [(hs q).2]; rw [(hs q).1] at ht; exact W.r0 q hq r hr ht
  · show ((G.E.put k (bgnS (G.E.ses k) c)).ses q).cal.mask < 256
    rw [ses_put]
    by_cases z : q = k
    · rw [if_pos z]; exact hm
    · rw [if_neg z]; exact W.mq q hq
theorem new18_bad {n : Nat} {room x : Int} (h8 : 8 < n) (hn : n < 1000000) (hK : K (.tuple #[.pointer none, .int .i64 40]) h) : CallsH Tryz.prog 18 [.int .i64 (n : Int), .int .i64 room, .int .i64 x] h K := by
  refine F18.spec _ _ _ h K ?_
  unfold F18.w
  refine F61.spec _ _ h _ ?_
  unfold F61.w F61.J0
  rw [decide_eq_false (by omega), bcase_false, decide_eq_true (by omega), bcase_true]
  exact ⟨_, _, rfl, hK⟩
end
end
section
def argH (x : Ses) (i : Nat) : Nat := match (rds x.cal)[i]? with | some r => x.hnd r.toNat | none => 0
theorem argH_some {x : Ses} {i : Nat} {r : Int} (h : (rds x.cal)[i]? = some r) : argH x i = x.hnd r.toNat := by unfold argH; rw [h]
theorem argH_none {x : Ses} {i : Nat} (h : (rds x.cal)[i]? = none) : argH x i = 0 := by unfold argH; rw [h]
def jobS (x : Ses) (n : Nat) : Ses := { x with job := n }
section
variable {h h' : Heap} {e i : Nat} {G G0 G' : EG} {K : Value → Heap → Prop}
theorem args172 {b : Nat} {p : Option Addr} {l cc : Nat} {x5 : Addr} {hb : Heap} (hi : i < 4) (W : EWd h e G) (A : At h b (rowV 3 fun _ => .int .u32 (0 : Int))) (hb0 : b ∉ ebl e G) (R : RowI hb h p l (rds (G.E.ses i).cal)) (hbb : ∀ q L, p = some ⟨q, 0, none⟩ → At h q L → q ≠ b) (ok : rdsOk (G.E.ses i) (G.E.ses i).cal)
    (hK : ∀ h', EWd h' e G → At h' b (rowV 3 fun j => .int .u32 (argH (G.E.ses i) j : Int)) → Only [b] h h' → F172.wk10 ⟨e, 0, none⟩ ⟨e, 3 + 24 * i, none⟩ x5 ⟨b, 0, none⟩ h' K) :
    F172.wk6 ⟨e, 0, none⟩ ⟨e, 3 + 24 * i, none⟩ x5 ⟨b, 0, none⟩ p l cc (Nat.cast l : Int) 0 h K := by
  obtain ⟨el, R⟩ := R
  have l3 := rds_len (G.E.ses i).cal
  unfold F172.wk6 F172.Jk6
  have main : ∀ (d k : Nat) (hh : Heap), d + k = l → EWd hh e G → At hh b (rowV 3 fun j => .int .u32 ((if j < k then argH (G.E.ses i) j else 0 : Nat) : Int)) → Only [b] h hh → F172.wL6 (d + 1) ⟨e, 0, none⟩ ⟨e, 3 + 24 * i, none⟩ x5 ⟨b, 0, none⟩ p l cc (Nat.cast l : Int) (k : Int) hh K := by
    intro d
    induction d with
    | zero =>
      intro k hh hk W1 A1 O1
      unfold F172.wL6 F172.JL6
      rw [decide_eq_false (by omega), bcase_false]
      refine hK hh W1 ?_ O1
      rw [rowV_ext (g' := fun j => .int .u32 ((if j < k then argH (G.E.ses i) j else 0 : Nat) : Int)) fun j hj => ?_]
      · exact A1
      · by_cases q : j < k
        · rw [if_pos q]
        · rw [if_neg q, argH_none (List.getElem?_eq_none (by omega))]
    | succ d ih =>
      intro k hh hk W1 A1 O1
      unfold F172.wL6 F172.JL6
      rw [decide_eq_true (by omega), bcase_true]
      have hlen : k < (rds (G.E.ses i).cal).length := by omega
      obtain ⟨x, hx⟩ : ∃ x, (rds (G.E.ses i).cal)[k]? = some x := ⟨_, List.getElem?_eq_getElem hlen⟩
      rcases R with R | ⟨q, Lc, ep, gb, Ab, g⟩
      · rw [R] at hlen; simp at hlen
      have qb := hbb q Lc ep Ab
      have Aq := Ab.only O1 (by simp; exact qb)
      obtain ⟨rx, tx⟩ := ok x (List.mem_of_getElem? hx)
      have r6 : x.toNat < 6 := by unfold isR at rx; omega
      rw [ep]
      refine ⟨by omega, by omega, ldI_of (n := x) (by simp only [add_mk]; rw [At.rd Aq, show 0 + Int.toNat (Nat.cast k : Int) * 1 = k by simp]; exact g k x hx) ⟨rx.1, rx.2, ?_⟩⟩
      refine ldI_of (n := ((G.E.ses i).hnd x.toNat : Int)) (by simp only [add_mk]; exact W1.I.hnd hi r6 (by omega)) ⟨by omega, by omega, ?_⟩
      simp only [add_mk]
      rw [show 0 + Int.toNat (Nat.cast k : Int) * 1 + 0 = k by simp]
      refine stK_at A1 (by rw [rowV_len]; omega) rfl fun h2 A2 O2 z2 => ?_
      rw [wr_s (by omega), ← ep]
      have W2 : EWd h2 e G := ⟨W1.W.only O2 (fun y hy hm => by simp at hy; subst hy; exact hb0 (mem_ebl.2 (.inr (.inl hm)))) (fun y hy hm => by simp at hy; subst hy; exact hb0 (mem_ebl.2 (.inr (.inr (.inr hm))))), W1.R.only O2 (fun y hy hm => by simp at hy; subst hy; exact hb0 (mem_ebl.2 (.inr (.inr (.inl hm))))), W1.I.only O2 (fun hm => by simp at hm; exact hb0 (mem_ebl.2 (.inl hm.symm))), W1.C, W1.de, W1.dB, W1.rg, W1.r0, W1.mq, W1.po⟩
      refine ih (k + 1) h2 (by omega) W2 ?_ (O1.trans O2 fun y hy _ => hy)
      rw [rowV_set] at A2
      rw [rowV_ext (g' := fun j => if j = k then .int .u32 ((G.E.ses i).hnd x.toNat : Int) else .int .u32 ((if j < k then argH (G.E.ses i) j else 0 : Nat) : Int)) fun j hj => ?_]
      · exact A2
      · by_cases z : j = k
        · rw [if_pos z, if_pos (by omega), z, argH_some hx]
        · rw [if_neg z]
          by_cases z2 : j < k
          · rw [if_pos z2, if_pos (by omega)]
          · rw [if_neg z2, if_neg (by omega)]
  refine ⟨_, main l 0 h (by omega) W ?_ (Only.refl _ _)⟩
  rw [rowV_ext (g' := fun _ => .int .u32 (0 : Int)) fun j hj => by rw [if_neg (by omega)]; rfl]
  exact A
def subG (G : EG) (i : Nat) (ws : List Wk) (A : MA) : EG :=
  { G with E := G.E.put i (jobS (G.E.ses i) (G.P.last + 1)), P := { G.P with ws := ws, jobs := G.P.jobs ++ [⟨G.P.last + 1, A, jobG (G.E.ses i).cal.op.toNat (argH (G.E.ses i) 0) (argH (G.E.ses i) 1) (argH (G.E.ses i) 2)⟩], last := G.P.last + 1 } }
theorem ewd_jobS {n : Nat} (W : EWd h e G) (hi : i < 4) (I : EIs h' e (G.E.put i (jobS (G.E.ses i) n))) (O : Only [e] h h') : EWd h' e { G with E := G.E.put i (jobS (G.E.ses i) n) } ∧ Eside e G h { G with E := G.E.put i (jobS (G.E.ses i) n) } h' := by
  have hs : ∀ q, ((G.E.put i (jobS (G.E.ses i) n)).ses q).there = (G.E.ses q).there ∧ ((G.E.put i (jobS (G.E.ses i) n)).ses q).hnd = (G.E.ses q).hnd ∧ ((G.E.put i (jobS (G.E.ses i) n)).ses q).cal = (G.E.ses q).cal := fun q => by
    rw [ses_put]
    by_cases z : q = i
    · rw [if_pos z, z]; exact ⟨rfl, rfl, rfl⟩
    · rw [if_neg z]; exact ⟨rfl, rfl, rfl⟩
  refine ⟨⟨W.W.only O (fun b hb => by simp at hb; subst hb; exact W.de.1) (fun b hb => by simp at hb; subst hb; exact W.de.2.1), W.R.only O (fun b hb => by simp at hb; subst hb; exact W.de.2.2), I, fun x => ?_, W.de, W.dB, fun k hk r hr ht => ?_, fun k hk r hr ht => ?_, fun k hk => ?_, W.po⟩, Eside.some O (fun b hb => by simp at hb; subst hb; exact mem_ebl.2 (.inl rfl)) fun b hb => hb⟩
  · show G.f (x : Int) = (cntR (G.E.put i (jobS (G.E.ses i) n)) x : Int)
    rw [ind_same fun k => ⟨(hs k).1, (hs k).2.1⟩]; exact W.C x
  · show isN G.N (((G.E.put i (jobS (G.E.ses i) n)).ses k).hnd r)
    have ht : ((G.E.put i (jobS (G.E.ses i) n)).ses k).there r = true := ht
    rw [(hs k).2.1]; rw [(hs k).1] at ht; exact W.rg k hk r hr ht
  · show ((G.E.put i (jobS (G.E.ses i) n)).ses k).hnd r = 0
    have ht : ((G.E.put i (jobS (G.E.ses i) n)).ses k).there r = false := ht
    rw [(hs k).2.1]; rw [(hs k).1] at ht; exact W.r0 k hk r hr ht
  · show ((G.E.put i (jobS (G.E.ses i) n)).ses k).cal.mask < 256
    rw [(hs k).2.2]; exact W.mq k hk
theorem arg_isN (W : EWd h e G) (hi : i < 4) (ok : rdsOk (G.E.ses i) (G.E.ses i).cal) {j : Nat} (hj : j < (rds (G.E.ses i).cal).length) : isN G.N (argH (G.E.ses i) j) := by
  obtain ⟨x, hx⟩ : ∃ x, (rds (G.E.ses i).cal)[j]? = some x := ⟨_, List.getElem?_eq_getElem hj⟩
  obtain ⟨rx, tx⟩ := ok x (List.mem_of_getElem? hx)
  rw [argH_some hx]
  exact W.rg i hi _ (by unfold isR at rx; omega) tx
theorem submits172 (W : EWd h e G) (hi : i < 4) (k3 : (G.E.ses i).cal.kind = 3) {op : Nat} (eo : (G.E.ses i).cal.op = (op : Int)) (hop : op = 1 ∨ op = 2 ∨ op = 3 ∨ op = 4 ∨ op = 5) (ok : rdsOk (G.E.ses i) (G.E.ses i).cal) (hR : ¬ anyR G.E) (hj : G.P.jobs.length < 64) (hl : G.P.last + 1 < 100000000)
    (hK : ∀ h' ws A, EWd h' e (subG G i ws A) → Eside e G h (subG G i ws A) h' → ws.length = G.P.ws.length → A.done = false → A.e = 0 → mus G.n G.N A.fs ≤ 1021 → nbs G.n G.N A.fs ≤ 2 ^ G.n - 1 → qlen ws = qlen G.P.ws + 1 → K (.bool false) h') :
    CallsH Tryz.prog 172 [ptrV e, sesP e i] h K := by
  refine F172.spec _ _ h K ?_
  unfold F172.w F172.J0
  refine waits214 W.I (fun a => absurd a hR) fun _ h1 O1 => ldB_of rfl ?_
  rw [bcase_false]
  have W1 := W.only0 O1
  simp only [add_mk, Nat.zero_add]
  refine ldI_of (W1.I.kind hi (by omega)) (ldI_of (W1.I.op hi (by omega)) (ldI_of (W1.I.dst hi (by omega)) (ldI_of (W1.I.ca hi (by omega)) (ldI_of (W1.I.cb hi (by omega)) (ldI_of (W1.I.cc hi (by omega)) (ldI_of (W1.I.mask hi (by omega)) ?_))))))
  obtain ⟨c, ec⟩ : ∃ c, c = (G.E.ses i).cal := ⟨_, rfl⟩
  rw [← ec]
  refine newK_at fun h2 A2 O2 z2 => ?_
  refine stK_at A2 (by simp) rfl fun h3 A3 O3 z3 => stK_at A3 (by simp) rfl fun h4 A4 O4 z4 => stK_at A4 (by simp) rfl fun h5 A5 O5 z5 => stK_at A5 (by simp) rfl fun h6 A6 O6 z6 => stK_at A6 (by simp) rfl fun h7 A7 O7 z7 => stK_at A7 (by simp) rfl fun h8 A8 O8 z8 => stK_at A8 (by simp) rfl fun h9 A9 O9 z9 => ?_
  have A9 : At h9 h1.size [.int .i64 c.kind, .int .i64 c.op, .int .i64 c.dst, .int .i64 c.a, .int .i64 c.b, .int .i64 c.c, .int .u8 (c.mask : Int)] := A9
  have O29 : Only [h1.size] h2 h9 := (((((O3.trans O4 fun b hb _ => hb).trans O5 fun b hb _ => hb).trans O6 fun b hb _ => hb).trans O7 fun b hb _ => hb).trans O8 fun b hb _ => hb).trans O9 fun b hb _ => hb
  have O19 : Only [] h1 h9 := O2.trans O29 (by intro x hx hl; simp at hx; omega)
  refine newK_at fun h10 A10 O10 z10 => ?_
  have z12 := A9.lt
  have A9' := A9.only O10 (by simp)
  have r : ∀ k, rd h10 ⟨h1.size, k, none⟩ = ([.int .i64 c.kind, .int .i64 c.op, .int .i64 c.dst, .int .i64 c.a, .int .i64 c.b, .int .i64 c.c, .int .u8 (c.mask : Int)] : List Value)[k]? := fun k => At.rd A9' k
  refine ldI_of (n := c.kind) (by rw [r]; rfl) (ldI_of (n := c.op) (by rw [r]; rfl) (ldI_of (n := c.dst) (by rw [r]; rfl) (ldI_of (n := c.a) (by rw [r]; rfl) (ldI_of (n := c.b) (by rw [r]; rfl) (ldI_of (n := c.c) (by rw [r]; rfl) (ldI_of (n := (c.mask : Int)) (by rw [r]; rfl) ?_))))))
  refine reads121 (c := c) fun h11 p l cc O11 R11 => ⟨_, _, _, rfl, ?_⟩
  have W10 := (W1.only0 O19).only0 O10
  have W11 := W10.only0 O11
  have lt9 := (W1.only0 O19).lt
  have A11 : At h11 h9.size (rowV 3 fun _ => .int .u32 (0 : Int)) := A10.only O11 (by simp)
  rw [ec] at R11
  have nb : h9.size ∉ ebl e G := fun hm => by have := lt9 _ hm; omega
  refine args172 (b := h9.size) hi W11 A11 nb R11 (fun q L ep Aq => ?_) ok fun h12 W12 A12 O12 => ?_
  · obtain ⟨el, R⟩ := R11
    rcases R with R | ⟨q2, L2, e2, g2, -, -⟩
    · intro eq
      have l0 : l = 0 := by rw [el, R]; rfl
      have hh : (rds (G.E.ses i).cal).length = (takesZ (G.E.ses i).cal.op).toNat := by
        unfold rds
        rw [if_neg (by omega), if_neg (by omega), if_pos k3, List.length_take]
        have := takes_le (G.E.ses i).cal.op
        simp
        omega
      rw [R, eo] at hh
      rcases hop with z | z | z | z | z <;> subst z <;> cases hh
    · rw [ep] at e2
      injection e2 with e2
      injection e2 with e2
      omega
  · unfold F172.wk10 F172.Jk10
    have A9'' : At h12 h1.size [.int .i64 c.kind, .int .i64 c.op, .int .i64 c.dst, .int .i64 c.a, .int .i64 c.b, .int .i64 c.c, .int .u8 (c.mask : Int)] := (A9'.only O11 (by simp)).only O12 (by simp; omega)
    have rc : ∀ k, rd h12 ⟨h1.size, k, none⟩ = ([.int .i64 c.kind, .int .i64 c.op, .int .i64 c.dst, .int .i64 c.a, .int .i64 c.b, .int .i64 c.c, .int .u8 (c.mask : Int)] : List Value)[k]? := fun k => At.rd A9'' k
    have ra : ∀ k, k < 3 → rd h12 ⟨h9.size, k, none⟩ = some (.int .u32 (argH (G.E.ses i) k : Int)) := fun k hk => by rw [At.rd A12, rowV_get hk]
    simp only [add_mk, Nat.zero_add]
    refine ldP_of W12.I.p (ldI_of (n := c.op) (by rw [rc]; rfl) ⟨by omega, by omega, ldI_of (ra 0 (by omega)) ⟨by omega, by omega, ldI_of (ra 1 (by omega)) ⟨by omega, by omega, ldI_of (ra 2 (by omega)) (ldI_of (n := (c.mask : Int)) (by rw [rc]; rfl) ?_)⟩⟩⟩)
    have hlen : (rds (G.E.ses i).cal).length = (takesZ (op : Int)).toNat := by
      unfold rds
      rw [if_neg (by omega), if_neg (by omega), if_pos k3, List.length_take, eo]
      have := takes_le (op : Int)
      simp
      omega
    have ha := arg_isN W12 hi ok (j := 0) (by rw [hlen]; rcases hop with z | z | z | z | z <;> subst z <;> decide)
    have hb : op ≠ 1 → isN G.N (argH (G.E.ses i) 1) := fun z => arg_isN W12 hi ok (by rw [hlen]; rcases hop with z | z | z | z | z <;> subst z <;> first | (exfalso; omega) | decide)
    have hc : op = 5 → isN G.N (argH (G.E.ses i) 2) := fun z => arg_isN W12 hi ok (by rw [hlen]; subst z; decide)
    rw [ec, eo]
    have mq := W.mq i hi
    refine submit35 mq W12.W.S W12.W.H W12.W.Ok W12.W.GO W12.W.D hop ha hb hc hl (fun q => by omega) fun _ h13 ws A S13 H13 Ok13 GO13 bk13 D13 wl dn ee mu nb13 ql O13 => ⟨_, _, rfl, ?_⟩
    rw [show ((0 : Int) != 0) = false from rfl, bcase_false]
    have W13 : Wld h13 G.E.p G.E.s G.n G.room G.fo G.gg G.off G.N { G.P with ws := ws, jobs := G.P.jobs ++ [⟨G.P.last + 1, A, jobG op (argH (G.E.ses i) 0) (argH (G.E.ses i) 1) (argH (G.E.ses i) 2)⟩], last := G.P.last + 1 } G.L := ⟨S13, H13, Ok13, GO13, D13⟩
    obtain ⟨W14, S14⟩ := W12.pool W13 (Ex.refl _) ⟨fun T hT _ => O13 T hT, Fresh.refl _ _, bk13⟩
    refine EIs.setS (x := jobS (G.E.ses i) (G.P.last + 1)) W14.I hi (j := 20) (by omega) (by omega) rfl (fun q hq => sC_job (x := G.E.ses i) q hq) fun h15 I15 O15 _ => ?_
    obtain ⟨W15, S15⟩ := ewd_jobS W14 hi I15 O15
    have eop : (G.E.ses i).cal.op.toNat = op := by rw [eo]; rfl
    have O0 : Only [] h h12 := ((((O1.trans O19 (by simp)).trans O10 (by simp)).trans O11 (by simp)).trans O12 (by intro x hx hl; simp at hx; have := O1.size; have := O19.size; omega))
    have S0 : Eside e G h G h12 := Eside.only0 O0
    refine hK h15 ws A ?_ ?_ wl dn ee mu nb13 ql
    · unfold subG; rw [eop]; exact W15
    · unfold subG; rw [eop]; exact (S0.trans S14).trans S15
end
end
section
section
variable {h h' : Heap} {e i : Nat} {G G0 G' : EG} {K : Value → Heap → Prop}
def forG (G : EG) (id : Nat) : EG := { G with P := { G.P with jobs := G.P.jobs.filter fun z => decide (z.id ≠ id) } }
theorem e_forget {id : Nat} (W : EWd h e G) {x : Nat} {j : Jb} (hx : G.P.jobs[x]? = some j) (ej : j.id = id) (hd : j.A.done = true)
    (hK : ∀ h' b, EWd h' e (forG G id) → Eside e G h (forG G id) h' → K (.bool b) h') : CallsH Tryz.prog 36 [ptrV G.E.p, .int .i64 (id : Int)] h K := by
  have hm := List.mem_of_getElem? hx
  refine forget36 W.W.H W.W.Ok (fun q => ?_) fun h1 j' hj' ej' hd' H1 Ok1 O1 => ?_
  · exfalso
    rcases q with q | ⟨j', hj', ej', hd'⟩
    · exact q j hm (by rw [ej])
    · have ids := W.W.H.ids
      have : j' = j := by
        obtain ⟨y, hy⟩ := List.getElem?_of_mem hj'
        have e1 : (G.P.jobs.map (·.id))[y]? = some id := by rw [List.getElem?_map, hy]; exact congrArg some (show j'.id = _ by omega)
        have e2 : (G.P.jobs.map (·.id))[x]? = some id := by rw [List.getElem?_map, hx]; exact congrArg some ej
        have := nodup_inj ids.1 e1 e2
        subst this
        rw [hy] at hx
        injection hx
      subst this
      rw [hd] at hd'
      cases hd'
  · have eid : j'.id = id := by omega
    rw [eid] at H1 Ok1
    have sub : ∀ b, PBl G.E.p { G.P with jobs := G.P.jobs.filter fun z => decide (z.id ≠ id) } b → PBl G.E.p G.P b := fun b hb => by
      rcases hb with hb | hb | hb | hb | ⟨y, hy, hb⟩
      · exact .inl hb
      · exact .inr (.inl hb)
      · exact .inr (.inr (.inl hb))
      · exact .inr (.inr (.inr (.inl hb)))
      · exact .inr (.inr (.inr (.inr ⟨y, (List.mem_filter.1 hy).1, hb⟩)))
    have W1 : Wld h1 G.E.p G.E.s G.n G.room G.fo G.gg G.off G.N { G.P with jobs := G.P.jobs.filter fun z => decide (z.id ≠ id) } G.L :=
      ⟨W.W.S.only O1 (fun b hb hm => by simp at hb; subst hb; exact W.W.D _ (.inr (.inl rfl)) hm), H1, Ok1, fun y hy => W.W.GO y ((List.mem_filter.1 hy).1), fun b hb => W.W.D b (sub b hb)⟩
    obtain ⟨W2, S2⟩ := W.pool W1 (Ex.refl _) ⟨fun T hT _ => O1.mono fun b hb _ => by simp at hb; subst hb; exact hT _ (.inr (.inl rfl)), Fresh.refl _ _, fun b hb => .inl (sub b hb)⟩
    exact hK h1 true W2 S2
theorem works_wait (W : EWd h e G) (hi : i < 4) {x : Nat} {j : Jb} (hx : G.P.jobs[x]? = some j) (ej : j.id = (G.E.ses i).job) (h0 : (G.E.ses i).job ≠ 0) (hd : j.A.done = false) (hK : K (.bool false) h) : CallsH Tryz.prog 127 [ptrV e, sesP e i] h K := by
  have hm := List.mem_of_getElem? hx
  refine F127.spec _ _ h K ?_
  unfold F127.w F127.J0
  simp only [add_mk, Nat.zero_add]
  refine ldI_of (W.I.job hi (by omega)) ?_
  rw [eqz (by omega), bcase_false]
  refine ldP_of W.I.p (ldI_of (W.I.job hi (by omega)) ?_)
  refine result38 W.W.H (fun q => absurd (by omega) (q j hm)) fun y j' hy ej' => ⟨_, _, rfl, ?_⟩
  have : j' = j := by
    have e1 : (G.P.jobs.map (·.id))[y]? = some j.id := by rw [List.getElem?_map, hy]; exact congrArg some (show j'.id = _ by omega)
    have e2 : (G.P.jobs.map (·.id))[x]? = some j.id := by rw [List.getElem?_map, hx]; rfl
    have := nodup_inj W.W.H.ids.1 e1 e2
    subst this
    rw [hy] at hx
    injection hx
  subst this
  rw [if_neg (by rw [hd]; simp), show ((61 : Int) == 61) = true from rfl, bcase_true]
  exact hK
def endG (G : EG) (i d : Nat) (told er : Nat) (f' : Int → Int) : EG := ansG (forG (if er = 0 then setG G i d told f' else G) (G.E.ses i).job) i (er : Int) 0
theorem works_done (W : EWd h e G) (hi : i < 4) {d x : Nat} {j : Jb} (hx : G.P.jobs[x]? = some j) (ej : j.id = (G.E.ses i).job) (h0 : (G.E.ses i).job ≠ 0) (hd : j.A.done = true) (he : j.A.e = 0 ∨ j.A.e = 60) (hv : j.A.e = 0 → isN G.N j.A.told) (hd6 : d < 6) (ed : (G.E.ses i).cal.dst = (d : Int))
    (hM : G.M + 1 ≤ LB) (ha : G.E.ans < 1000000000) (hK : ∀ h' f', EWd h' e (endG G i d j.A.told j.A.e f') → Eside e G h (endG G i d j.A.told j.A.e f') h' → K (.bool true) h') : CallsH Tryz.prog 127 [ptrV e, sesP e i] h K := by
  have hm := List.mem_of_getElem? hx
  refine F127.spec _ _ h K ?_
  unfold F127.w F127.J0
  simp only [add_mk, Nat.zero_add]
  refine ldI_of (W.I.job hi (by omega)) ?_
  rw [eqz (by omega), bcase_false]
  refine ldP_of W.I.p (ldI_of (W.I.job hi (by omega)) ?_)
  refine result38 W.W.H (fun q => absurd (by omega) (q j hm)) fun y j' hy ej' => ⟨_, _, rfl, ?_⟩
  have : j' = j := by
    have e1 : (G.P.jobs.map (·.id))[y]? = some j.id := by rw [List.getElem?_map, hy]; exact congrArg some (show j'.id = _ by omega)
    have e2 : (G.P.jobs.map (·.id))[x]? = some j.id := by rw [List.getElem?_map, hx]; rfl
    have := nodup_inj W.W.H.ids.1 e1 e2
    subst this
    rw [hy] at hx
    injection hx
  subst this
  rw [if_pos hd]
  have fin : ∀ {hh : Heap} {G1 : EG} {er : Nat}, EWd hh e G1 → Eside e G h G1 hh → G1.P = G.P → (G1.E.ses i).job = (G.E.ses i).job → G1.E.ans = G.E.ans → (∀ h2, EWd h2 e (ansG (forG G1 (G.E.ses i).job) i (er : Int) 0) → Eside e G h (ansG (forG G1 (G.E.ses i).job) i (er : Int) 0) h2 → K (.bool true) h2) → F127.wk8 ⟨e, 0, none⟩ ⟨e, 3 + 24 * i, none⟩ (er : Int) hh K := fun {hh G1 er} W1 S1 eP eJ eA hK => by
    unfold F127.wk8 F127.Jk8
    simp only [add_mk, Nat.zero_add]
    refine ldP_of W1.I.p (ldI_of (W1.I.job hi (by omega)) ?_)
    rw [eJ]
    refine e_forget W1 (x := x) (j := j') (by rw [eP]; exact hx) ej hd fun h2 b W2 S2 => ldB_of rfl ?_
    refine e_answers (n := 0) W2 hi (by show G1.E.ans < _; rw [eA]; exact ha) fun h3 W3 S3 => ⟨rfl, hK h3 W3 ((S1.trans S2).trans S3)⟩
  unfold endG at hK
  rcases he with z | z
  · rw [z, if_pos ⟨hd, rfl⟩, show (((0 : Nat) : Int) == 61) = false from rfl, bcase_false, show (((0 : Nat) : Int) == 0) = true from rfl, bcase_true]
    refine e_sets W hi hd6 ed (hv z) hM fun h1 f1 W1 S1 => ⟨rfl, ?_⟩
    rw [z] at hK
    refine fin W1 S1 rfl (by show ((G.E.put i (setS (G.E.ses i) d j'.A.told)).ses i).job = _; rw [put_ses]; rfl) rfl fun h2 W2 S2 => ?_
    have := hK h2 f1
    rw [if_pos rfl] at this
    exact this W2 S2
  · rw [z, if_neg (by omega), show (((60 : Nat) : Int) == 61) = false from rfl, bcase_false, show (((60 : Nat) : Int) == 0) = false from rfl, bcase_false]
    rw [z] at hK
    refine fin W Eside.refl rfl rfl rfl fun h2 W2 S2 => ?_
    have := hK h2 G.f
    rw [if_neg (by omega)] at this
    exact this W2 S2
end
end
section
section
variable {h h' : Heap} {e s w : Nat} {G G0 G' : EG} {K : Value → Heap → Prop}
theorem solo_pick {draw : Int} (W : EWd h e G) (hs : s < 4) (hp : (G.E.ses s).pend = true) (solo : ∀ k, k < 4 → k ≠ s → (G.E.ses k).pend = false) (hw : w < G.P.ws.length) (R : Heap → EG → Prop)
    (hR : ∀ {h1 G1}, R h1 G1 → EWd h1 e G1 ∧ ∀ k, k < 4 → s < k → (G1.E.ses k).pend = false) (hO : ∀ {h1 G1 h2}, R h1 G1 → Only [] h1 h2 → R h2 G1)
    (hs1 : ∀ {h1} {Q : Value → Heap → Prop}, Only [] h h1 → (∀ b h2 G2, R h2 G2 → Q (.bool b) h2) → CallsH Tryz.prog (stepN (G.E.ses s).cal.kind) [ptrV e, sesP e s] h1 Q)
    (hE : ∀ h1 G1, R h1 G1 → F26.wk11 ⟨e, 0, none⟩ (w : Int) draw h1 K) : CallsH Tryz.prog 26 [ptrV e, .int .i64 (w : Int), .int .i64 draw] h K := by
  refine pick26 W (fun q h1 O1 => ?_) (fun i h1 G1 => (i ≤ s ∧ G1 = G ∧ Only [] h h1) ∨ (s < i ∧ R h1 G1)) (fun h1 O1 => .inl ⟨Nat.zero_le _, rfl, O1⟩) (fun {i h1 G1 h2} I O => ?_) (fun {i h1 G1} I => ?_) (fun {i h1 G1} hi I hp' => ?_) (fun {i h1 G1 Q} hi I hp' hQ => ?_) (fun _ _ _ h1 G1 I => ?_)
  · exfalso
    rcases q with q | q | q
    · omega
    · omega
    · exact q ⟨s, hs, hp⟩
  · rcases I with ⟨a, b, c⟩ | ⟨a, b⟩
    · exact .inl ⟨a, b, c.trans O (by simp)⟩
    · exact .inr ⟨a, hO b O⟩
  · rcases I with ⟨a, b, c⟩ | ⟨a, b⟩
    · rw [b]; exact W.only0 c
    · exact (hR b).1
  · rcases I with ⟨a, b, c⟩ | ⟨a, b⟩
    · by_cases q : i = s
      · subst q; rw [b, hp] at hp'; cases hp'
      · exact .inl ⟨by omega, b, c⟩
    · exact .inr ⟨by omega, b⟩
  · rcases I with ⟨a, b, c⟩ | ⟨a, b⟩
    · by_cases q : i = s
      · subst q
        rw [b]
        exact hs1 c fun b' h2 G2 R2 => hQ b' h2 G2 (.inr ⟨by omega, R2⟩)
      · rw [b, solo i hi q] at hp'; cases hp'
    · rw [(hR b).2 i hi a] at hp'; cases hp'
  · rcases I with ⟨a, b, c⟩ | ⟨a, b⟩
    · omega
    · exact hE h1 G1 b
structure Keeps (G G' : EG) : Prop where
  E : G'.E = G.E
  n : G'.n = G.n
  fo : G'.fo = G.fo
  gg : G'.gg = G.gg
  room : G'.room = G.room
  off : G'.off = G.off
  ws : G'.P.ws.length = G.P.ws.length
  last : G'.P.last = G.P.last
  ids : G'.P.jobs.map (fun j => (j.id, j.G)) = G.P.jobs.map fun j => (j.id, j.G)
  M : G.M ≤ G'.M ∧ G'.M ≤ G.M + 1000
  sm : ∀ k, k < 4 → ∀ r, r < 6 → (G.E.ses k).there r = true → ∀ y, sm G.n G.fo G'.N ((G.E.ses k).hnd r) y = sm G.n G.fo G.N ((G.E.ses k).hnd r) y
  phi : phi G.n G'.N G'.P ≤ phi G.n G.N G.P
  psi : psi G.n G'.N G'.P ≤ psi G.n G.N G.P
  bad : (∀ j ∈ G.P.jobs, j.A.e = 0) → Ev.psi G.n G.N G.P ≤ G.room → ∀ j ∈ G'.P.jobs, j.A.e = 0
theorem coll_sums {G G1 : EG} (C1 : Coll G G1) (Ok : PoolOk G1.n G1.fo G1.N G1.P) : Ev.phi G.n G1.N G.P = Ev.phi G.n G.N G.P ∧ Ev.psi G.n G1.N G.P ≤ Ev.psi G.n G.N G.P := by
  have fr : ∀ j ∈ G.P.jobs, ∀ f ∈ j.A.fs, FrOk G1.n G1.fo G1.N f := fun j hj => (Ok.mst j (by rw [C1.P]; exact hj)).1.frs
  have em : ∀ j ∈ G.P.jobs, mus G.n G1.N j.A.fs = mus G.n G.N j.A.fs := fun j hj => by
    have := mus_ext (n := G1.n) (fo := G1.fo) C1.ex (fr j hj)
    rw [C1.n] at this
    exact this.symm
  have en : ∀ j ∈ G.P.jobs, nbs G.n G1.N j.A.fs = nbs G.n G.N j.A.fs := fun j hj => by
    have := nbs_ext (n := G1.n) (fo := G1.fo) C1.ex (fr j hj)
    rw [C1.n] at this
    exact this.symm
  have hc := C1.cnt
  constructor
  · unfold Ev.phi
    rw [List.map_congr_left em]
  · unfold Ev.psi
    rw [List.map_congr_left en]
    omega
theorem PickR.kept (P : PickR w G G') : Keeps G G' ∧ ∃ k, G.P.ws[w]? = some k ∧ (Ev.phi G.n G'.N G'.P + 1 ≤ Ev.phi G.n G.N G.P ∨ (k.job = 0 ∧ k.q = [] ∧ WsEq G.P.ws G'.P.ws)) := by
  obtain ⟨G1, N', P', L', k, C1, Ok1, e, Pk, hk, hph⟩ := P
  obtain ⟨s1, s2⟩ := coll_sums C1 Ok1
  have hn := C1.n
  have hP := C1.P
  have hroom := C1.room
  rw [hP] at Pk hk hph
  rw [hn] at Pk hph
  subst e
  refine ⟨⟨C1.E, hn, C1.fo, C1.gg, hroom, C1.off, Pk.alike.2.1, Pk.alike.1, Pk.alike.2.2, C1.M, fun k' h4 r hr ht y => ?_, ?_, ?_, fun hb hps => ?_⟩, k, hk, ?_⟩
  · have hv := C1.rg k' h4 r hr ht
    have o1 := C1.ok
    have g1 : sm G.n G.fo N' ((G.E.ses k').hnd r) y = sm G.n G.fo G1.N ((G.E.ses k').hnd r) y := by
      rw [← hn]
      exact Pk.ex.sm o1 hv
    have g2 : sm G.n G.fo G.N ((G.E.ses k').hnd r) y = sm G.n G.fo G1.N ((G.E.ses k').hnd r) y := by
      rw [← hn]
      exact C1.ex.sm o1 hv
    show sm G.n G.fo N' _ y = _
    rw [g1, g2]
  · have := Pk.le1; show Ev.phi G.n N' P' ≤ _; omega
  · have := Pk.le2; show Ev.psi G.n N' P' ≤ _; omega
  · refine Pk.bad hb ?_
    rw [hroom]
    omega
  · rcases hph with q | q
    · left; show Ev.phi G.n N' P' + 1 ≤ _; omega
    · exact .inr q
end
end
section
def opF (op : Nat) (x y z : Bool) : Bool := if op = 1 then !x else opB op x y z
theorem goal_fun {n : Nat} {fo : Nat → Nat} {N : List (Option Nd)} {op a b c r : Nat} (hop : op = 1 ∨ op = 2 ∨ op = 3 ∨ op = 4 ∨ op = 5) (R : OpR n fo N (jobG op a b c).op (jobG op a b c).a0 (jobG op a b c).a1 (jobG op a b c).a2 r) (y : Nat) :
    sm n fo N r y = opF op (sm n fo N a y) (sm n fo N b y) (sm n fo N c y) := by
  have h := R.sm y
  unfold jobG at h
  unfold opF
  rcases hop with z | z | z | z | z <;> subst z
  · rw [h, if_pos rfl]
    show opB 4 (sm n fo N 1 y) (sm n fo N a y) (sm n fo N 0 y) = _
    rw [sm_const (a := 1) (by omega)]
    unfold opB
    cases sm n fo N a y <;> rfl
  · exact h
  · exact h
  · exact h
  · exact h
def Safe (G : EG) : Prop := cntN G.N + 255 < G.room
structure Runn (G0 : EG) (s op : Nat) (G : EG) : Prop where
  st : G.E.s = G0.E.s ∧ G.E.p = G0.E.p ∧ G.E.r = G0.E.r
  n : G.n = G0.n
  fo : G.fo = G0.fo
  gg : G.gg = G0.gg
  room : G.room = G0.room
  off : G.off = G0.off
  ws : G.P.ws.length = G0.P.ws.length
  last : G.P.last = G0.P.last + 1
  ans : G.E.ans = G0.E.ans
  ses : G.E.ses = upN G0.E.ses s (jobS (G0.E.ses s) (G0.P.last + 1))
  M0 : G0.M ≤ G.M
  sm : ∀ k, k < 4 → ∀ r, r < 6 → (G0.E.ses k).there r = true → ∀ y, sm G0.n G0.fo G.N ((G0.E.ses k).hnd r) y = sm G0.n G0.fo G0.N ((G0.E.ses k).hnd r) y
  job : ∃ j, G.P.jobs = [j] ∧ j.id = G0.P.last + 1 ∧ j.G = jobG op (argH (G0.E.ses s) 0) (argH (G0.E.ses s) 1) (argH (G0.E.ses s) 2)
  safe : Safe G0 → psi G0.n G.N G.P ≤ cntN G0.N + 255 ∧ ∀ j ∈ G.P.jobs, j.A.e = 0
structure Fini (G0 : EG) (s op : Nat) (G : EG) : Prop where
  st : G.E.s = G0.E.s ∧ G.E.p = G0.E.p ∧ G.E.r = G0.E.r
  n : G.n = G0.n
  fo : G.fo = G0.fo
  gg : G.gg = G0.gg
  room : G.room = G0.room
  off : G.off = G0.off
  ws : G.P.ws.length = G0.P.ws.length
  last : G.P.last = G0.P.last + 1
  jobs : G.P.jobs = []
  ans : G.E.ans = G0.E.ans + 1
  M0 : G0.M ≤ G.M
  oth : ∀ k, k < 4 → k ≠ s → G.E.ses k = G0.E.ses k
  old : ∀ k, k < 4 → ∀ r, r < 6 → (G0.E.ses k).there r = true → (G.E.ses k).there r = true → (G.E.ses k).hnd r = (G0.E.ses k).hnd r → ∀ y, sm G0.n G0.fo G.N ((G0.E.ses k).hnd r) y = sm G0.n G0.fo G0.N ((G0.E.ses k).hnd r) y
  res : (∃ d v : Nat, d < 6 ∧ (G0.E.ses s).cal.dst = (d : Int) ∧ G.E.ses s = ansS (setS (jobS (G0.E.ses s) (G0.P.last + 1)) d v) 0 0 ∧
      ∀ y, Ev.sm G0.n G0.fo G.N v y = opF op (Ev.sm G0.n G0.fo G0.N (argH (G0.E.ses s) 0) y) (Ev.sm G0.n G0.fo G0.N (argH (G0.E.ses s) 1) y) (Ev.sm G0.n G0.fo G0.N (argH (G0.E.ses s) 2) y)) ∨
    (¬ Safe G0 ∧ G.E.ses s = ansS (jobS (G0.E.ses s) (G0.P.last + 1)) 60 0)
  cnt : Safe G0 → cntN G.N ≤ cntN G0.N + 255
section
variable {h h' : Heap} {e s w op : Nat} {G G0 G' : EG} {K : Value → Heap → Prop} {C : Nat → Nat → Prop}
theorem Runn.sess (R : Runn G0 s op G) : G.E.ses s = jobS (G0.E.ses s) (G0.P.last + 1) := by rw [R.ses]; exact upN_eq
theorem Runn.ne (R : Runn G0 s op G) {k : Nat} (hk : k ≠ s) : G.E.ses k = G0.E.ses k := by rw [R.ses]; exact upN_ne hk
theorem Runn.regs (R : Runn G0 s op G) (k : Nat) : (G.E.ses k).there = (G0.E.ses k).there ∧ (G.E.ses k).hnd = (G0.E.ses k).hnd := by
  by_cases q : k = s
  · subst q; rw [R.sess]; exact ⟨rfl, rfl⟩
  · rw [R.ne q]; exact ⟨rfl, rfl⟩
theorem one_job {P P' : PS} {j : Jb} (hj : P.jobs = [j]) (a : P'.jobs.map (fun j => (j.id, j.G)) = P.jobs.map fun j => (j.id, j.G)) : ∃ j', P'.jobs = [j'] ∧ j'.id = j.id ∧ j'.G = j.G := by
  rw [hj] at a
  match hq : P'.jobs, a with
  | [], a => simp at a
  | [j'], a =>
    simp at a
    exact ⟨j', rfl, a.1, a.2⟩
  | _ :: _ :: _, a => simp at a
theorem Runn.kept (R : Runn G0 s op G) (k : Keeps G G') : Runn G0 s op G' := by
  obtain ⟨j, hj, ej, gj⟩ := R.job
  obtain ⟨j', hj', ej', gj'⟩ := one_job hj k.ids
  have hn := R.n
  have hf := R.fo
  refine ⟨by rw [k.E]; exact R.st, k.n.trans hn, k.fo.trans hf, k.gg.trans R.gg, k.room.trans R.room, k.off.trans R.off, k.ws.trans R.ws, k.last.trans R.last, by rw [k.E]; exact R.ans, by rw [k.E]; exact R.ses, Nat.le_trans R.M0 k.M.1, fun q hq r hr ht y => ?_, ⟨j', hj', ej'.trans ej, gj'.trans gj⟩, fun sf => ?_⟩
  · have := k.sm q hq r hr (by rw [(R.regs q).1]; exact ht) y
    rw [(R.regs q).2, hn, hf] at this
    rw [this]
    exact R.sm q hq r hr ht y
  · obtain ⟨p1, p2⟩ := R.safe sf
    have p3 := k.psi
    rw [hn] at p3
    refine ⟨by omega, k.bad p2 ?_⟩
    unfold Safe at sf
    rw [hn, R.room]
    omega
theorem Fini.kept (hs : s < 4) (F : Fini G0 s op G) (k : Keeps G G') : Fini G0 s op G' := by
  have hj' : G'.P.jobs = [] := by
    have := k.ids
    rw [F.jobs] at this
    simpa using this
  have hn := F.n
  have hf := F.fo
  have smr : ∀ q, q < 4 → ∀ r, r < 6 → (G.E.ses q).there r = true → ∀ y, sm G0.n G0.fo G'.N ((G.E.ses q).hnd r) y = sm G0.n G0.fo G.N ((G.E.ses q).hnd r) y := fun q hq r hr ht y => by
    have := k.sm q hq r hr ht y
    rw [hn, hf] at this
    exact this
  refine ⟨by rw [k.E]; exact F.st, k.n.trans hn, k.fo.trans hf, k.gg.trans F.gg, k.room.trans F.room, k.off.trans F.off, k.ws.trans F.ws, k.last.trans F.last, hj', by rw [k.E]; exact F.ans, Nat.le_trans F.M0 k.M.1, by rw [k.E]; exact F.oth, fun q hq r hr ht ht' he y => ?_, ?_, fun sf => ?_⟩
  · rw [k.E] at ht' he
    rw [← he, smr q hq r hr ht' y, he]
    exact F.old q hq r hr ht ht' he y
  · rw [k.E]
    rcases F.res with ⟨d, v, d6, ed, ev, fv⟩ | z
    · refine .inl ⟨d, v, d6, ed, ev, fun y => ?_⟩
      have := smr s hs d d6 (by rw [ev]; exact upN_eq) y
      rw [show (G.E.ses s).hnd d = v by rw [ev]; exact upN_eq] at this
      rw [this]
      exact fv y
    · exact .inr z
  · have := F.cnt sf
    have p3 := k.psi
    unfold psi at p3
    rw [hj', F.jobs] at p3
    simp at p3
    omega
end
end
section
structure Beg (G : EG) (s op : Nat) : Prop where
  s4 : s < 4
  pend : (G.E.ses s).pend = true
  solo : ∀ k, k < 4 → k ≠ s → (G.E.ses k).pend = false
  kind : (G.E.ses s).cal.kind = 3
  eop : (G.E.ses s).cal.op = (op : Int)
  join : op = 1 ∨ op = 2 ∨ op = 3 ∨ op = 4 ∨ op = 5
  refu : refu G.n (G.E.ses s) (G.E.ses s).cal = 0
  job : (G.E.ses s).job = 0
  jobs : G.P.jobs = []
  locs : locs G.P.ws = []
  last : G.P.last + 1 < 100000000
  M : G.M + 20000000 ≤ LB / 1000
  ans : G.E.ans < 1000000000
section
variable {h h' : Heap} {e s w op : Nat} {G G0 G' : EG} {K : Value → Heap → Prop} {C : Nat → Nat → Prop}
theorem Beg.dst (B : Beg G s op) : ∃ d : Nat, d < 6 ∧ (G.E.ses s).cal.dst = (d : Int) := by
  have := (refu_zero B.refu).2.1 (by unfold wrK; rw [B.kind]; omega)
  exact ⟨(G.E.ses s).cal.dst.toNat, by unfold isR at this; omega, by unfold isR at this; omega⟩
theorem Beg.noR (B : Beg G s op) : ¬ anyR G.E := fun ⟨k, hk, hp, h8⟩ => by
  by_cases q : k = s
  · subst q; rw [B.kind] at h8; cases h8
  · rw [B.solo k hk q] at hp; cases hp
theorem runn_sub (B : Beg G0 s op) (W : EWd h e G0) {ws : List Wk} {A : MA} (hl : ws.length = G0.P.ws.length) (he : A.e = 0) (hm : mus G0.n G0.N A.fs ≤ 1021) (hn : nbs G0.n G0.N A.fs ≤ 2 ^ G0.n - 1) (hq : qlen ws = qlen G0.P.ws + 1) :
    Runn G0 s op (subG G0 s ws A) ∧ phi G0.n (subG G0 s ws A).N (subG G0 s ws A).P ≤ 1022 ∧ ∃ j, (subG G0 s ws A).P.jobs = [j] ∧ j.A = A := by
  have n8 := W.W.S.ok.2.2.1
  have n8 : G0.n ≤ 8 := n8
  have p8 : 2 ^ G0.n ≤ 2 ^ 8 := Nat.pow_le_pow_right (by omega) n8
  have eop : (G0.E.ses s).cal.op.toNat = op := by rw [B.eop]; rfl
  have ej : (subG G0 s ws A).P.jobs = [⟨G0.P.last + 1, A, jobG op (argH (G0.E.ses s) 0) (argH (G0.E.ses s) 1) (argH (G0.E.ses s) 2)⟩] := by
    show G0.P.jobs ++ [_] = _
    rw [B.jobs, eop]
    rfl
  have q0 : qlen G0.P.ws = 0 := by
    have := B.locs
    unfold Ev.locs at this
    unfold qlen
    have hz : ∀ k ∈ G0.P.ws, k.q.length = 0 := fun k hk => by
      have : k.loc = [] := (List.flatMap_eq_nil_iff.1 this) k hk
      unfold Wk.loc at this
      have := (List.append_eq_nil_iff.1 this).2
      rw [this]; rfl
    have gz : ∀ l : List Wk, (∀ k ∈ l, k.q.length = 0) → (l.map fun k => k.q.length).sum = 0 := fun l => by
      induction l with
      | nil => intro _; rfl
      | cons a l ih => intro hl; rw [List.map_cons, List.sum_cons, hl a (by simp), ih fun k hk => hl k (by simp [hk])]
    exact gz _ hz
  refine ⟨⟨⟨rfl, rfl, rfl⟩, rfl, rfl, rfl, rfl, rfl, hl, rfl, rfl, rfl, Nat.le_refl _, fun k hk r hr ht y => rfl, ⟨_, ej, rfl, rfl⟩, fun sf => ⟨?_, fun j hj => ?_⟩⟩, ?_, ⟨_, ej, rfl⟩⟩
  · unfold psi
    rw [ej]
    show cntN G0.N + (nbs G0.n G0.N A.fs + 0) ≤ _
    omega
  · rw [ej] at hj
    simp at hj
    subst hj
    exact he
  · unfold phi
    rw [ej]
    show mus G0.n G0.N A.fs + 0 + qlen ws ≤ _
    omega
theorem runn_end (B : Beg G0 s op) (R : Runn G0 s op G) (W : EWd h e G) {j : Jb} (hj : G.P.jobs = [j]) (hd : j.A.done = true) {d : Nat} (d6 : d < 6) (ed : (G0.E.ses s).cal.dst = (d : Int)) {f' : Int → Int} : Fini G0 s op (endG G s d j.A.told j.A.e f') ∧ (j.A.e = 0 ∨ j.A.e = 60) ∧ (j.A.e = 0 → isN G.N j.A.told) := by
  obtain ⟨j', hj', ej, gj⟩ := R.job
  have : j' = j := by rw [hj] at hj'; injection hj' with a; exact a.symm
  subst this
  have mst := (W.W.Ok.mst j' (by rw [hj]; simp)).1
  rw [gj] at mst
  have hn := R.n
  have hf := R.fo
  have hid : (G.E.ses s).job = G0.P.last + 1 := by rw [R.sess]; rfl
  have hjf : (forG (if j'.A.e = 0 then setG G s d j'.A.told f' else G) (G.E.ses s).job).P.jobs = [] := by
    have : (if j'.A.e = 0 then setG G s d j'.A.told f' else G).P = G.P := by split <;> rfl
    show List.filter _ (if j'.A.e = 0 then setG G s d j'.A.told f' else G).P.jobs = []
    rw [this, hj, hid]
    simp [ej]
  have base : (endG G s d j'.A.told j'.A.e f').N = G.N ∧ (endG G s d j'.A.told j'.A.e f').n = G.n ∧ (endG G s d j'.A.told j'.A.e f').fo = G.fo ∧ (endG G s d j'.A.told j'.A.e f').gg = G.gg ∧ (endG G s d j'.A.told j'.A.e f').room = G.room ∧ (endG G s d j'.A.told j'.A.e f').off = G.off ∧ (endG G s d j'.A.told j'.A.e f').P.ws = G.P.ws ∧ (endG G s d j'.A.told j'.A.e f').P.last = G.P.last ∧ (endG G s d j'.A.told j'.A.e f').E.ans = G.E.ans + 1 ∧ G.M ≤ (endG G s d j'.A.told j'.A.e f').M ∧ (endG G s d j'.A.told j'.A.e f').E.s = G.E.s ∧ (endG G s d j'.A.told j'.A.e f').E.p = G.E.p ∧ (endG G s d j'.A.told j'.A.e f').E.r = G.E.r := by
    unfold endG
    split
    · exact ⟨rfl, rfl, rfl, rfl, rfl, rfl, rfl, rfl, rfl, Nat.le_add_right _ _, rfl, rfl, rfl⟩
    · exact ⟨rfl, rfl, rfl, rfl, rfl, rfl, rfl, rfl, rfl, Nat.le_refl _, rfl, rfl, rfl⟩
  obtain ⟨b1, b2, b3, b4, b5, b6, b7, b8, b9, b10, b11, b12, b13⟩ := base
  have ses : (endG G s d j'.A.told j'.A.e f').E.ses = upN G.E.ses s (ansS (if j'.A.e = 0 then setS (G.E.ses s) d j'.A.told else G.E.ses s) (j'.A.e : Int) 0) := by
    unfold endG
    by_cases z : j'.A.e = 0
    · rw [if_pos z, if_pos z]
      show upN (upN G.E.ses s _) s (ansS (upN G.E.ses s (setS (G.E.ses s) d j'.A.told) s) _ 0) = _
      rw [upN_upN, upN_eq]
    · rw [if_neg z, if_neg z]
      rfl
  have er : j'.A.e = 0 ∨ j'.A.e = 60 := by
    rcases mst with ⟨q, -⟩ | ⟨-, q, -⟩ | ⟨-, q, -⟩
    · rw [q] at hd; cases hd
    · exact .inl q
    · exact .inr q
  have opr : j'.A.e = 0 → OpR G.n G.fo G.N (jobG op (argH (G0.E.ses s) 0) (argH (G0.E.ses s) 1) (argH (G0.E.ses s) 2)).op (jobG op (argH (G0.E.ses s) 0) (argH (G0.E.ses s) 1) (argH (G0.E.ses s) 2)).a0 (jobG op (argH (G0.E.ses s) 0) (argH (G0.E.ses s) 1) (argH (G0.E.ses s) 2)).a1 (jobG op (argH (G0.E.ses s) 0) (argH (G0.E.ses s) 1) (argH (G0.E.ses s) 2)).a2 j'.A.told := fun z => by
    rcases mst with ⟨q, -⟩ | ⟨-, -, -, q⟩ | ⟨-, q, -⟩
    · rw [q] at hd; cases hd
    · exact q
    · rw [z] at q; cases q
  refine ⟨⟨⟨b11.trans R.st.1, b12.trans R.st.2.1, b13.trans R.st.2.2⟩, b2.trans hn, b3.trans hf, b4.trans R.gg, b5.trans R.room, b6.trans R.off, by rw [b7]; exact R.ws, b8.trans R.last, hjf, by rw [b9, R.ans], Nat.le_trans R.M0 b10, fun k hk hks => ?_, fun k hk r hr ht ht' he y => ?_, ?_, fun sf => ?_⟩, er, fun z => (opr z).is⟩
  · rw [ses, upN_ne hks]; exact R.ne hks
  · rw [b1]; exact R.sm k hk r hr ht y
  · rcases er with z | z
    · left
      refine ⟨d, j'.A.told, d6, ed, ?_, fun y => ?_⟩
      · rw [ses, upN_eq, if_pos z, z, R.sess]; rfl
      · rw [b1]
        have g := goal_fun B.join (opr z) y
        rw [hn, hf] at g
        rw [g]
        have ar : ∀ q, Ev.sm G0.n G0.fo G.N (argH (G0.E.ses s) q) y = Ev.sm G0.n G0.fo G0.N (argH (G0.E.ses s) q) y := fun q => by
          match hx : (rds (G0.E.ses s).cal)[q]? with
          | none => rw [argH_none hx, sm_const (by omega), sm_const (by omega)]
          | some x =>
            obtain ⟨rx, tx⟩ := (refu_zero B.refu).2.2.1 x (List.mem_of_getElem? hx)
            rw [argH_some hx]
            exact R.sm s B.s4 x.toNat (by unfold isR at rx; omega) tx y
        rw [ar 0, ar 1, ar 2]
    · right
      refine ⟨fun sf => ?_, ?_⟩
      · have := (R.safe sf).2 j' (by rw [hj]; simp)
        rw [z] at this
        cases this
      · rw [ses, upN_eq, if_neg (by omega), z, R.sess]; rfl
  · rw [b1]
    have := (R.safe sf).1
    unfold psi at this
    omega
def Rnd (G0 : EG) (s op m w : Nat) (G : EG) : Prop :=
  Fini G0 s op G ∨ (Runn G0 s op G ∧ (∃ j, G.P.jobs = [j] ∧ j.A.done = true) ∧ (2 ≤ m ∨ w = 0)) ∨
  (Runn G0 s op G ∧ (∃ j, G.P.jobs = [j] ∧ j.A.done = false) ∧ (phi G0.n G.N G.P + 3 ≤ m ∨ (phi G0.n G.N G.P + 2 ≤ m ∧ ∃ w0 k, w ≤ w0 ∧ G.P.ws[w0]? = some k ∧ (k.job ≠ 0 ∨ k.q ≠ [])))) ∨
  (w = 0 ∧ m = 1100 ∧ G = G0)
theorem Fini.pend (F : Fini G0 s op G) (B : Beg G0 s op) : ∀ k, k < 4 → (G.E.ses k).pend = false := fun k hk => by
  by_cases q : k = s
  · subst q
    rcases F.res with ⟨d, v, -, -, ev, -⟩ | ⟨-, ev⟩ <;> rw [ev] <;> rfl
  · rw [F.oth k hk q]; exact B.solo k hk q
theorem Runn.solo (R : Runn G0 s op G) (B : Beg G0 s op) : (G.E.ses s).pend = true ∧ ∀ k, k < 4 → k ≠ s → (G.E.ses k).pend = false :=
  ⟨by rw [R.sess]; exact B.pend, fun k hk q => by rw [R.ne q]; exact B.solo k hk q⟩
theorem fin_cases (j : Jb) : j.A.done = true ∨ j.A.done = false := by cases j.A.done <;> simp
end
end
section
section
variable {h h' : Heap} {e s w op m : Nat} {G G0 G' : EG} {K : Value → Heap → Prop} {C : Nat → Nat → Prop}
theorem step3 {k : Int} (h : k = 3) : stepN k = 127 := by subst h; rfl
theorem rnd_run (R : Runn G0 s op G) (h2 : 2 ≤ m) (hp : phi G0.n G.N G.P + 3 ≤ m) : Rnd G0 s op m w G := by
  obtain ⟨j, hj, -, -⟩ := R.job
  rcases fin_cases j with d | d
  · exact .inr (.inl ⟨R, ⟨j, hj, d⟩, .inl h2⟩)
  · exact .inr (.inr (.inl ⟨R, ⟨j, hj, d⟩, .inl hp⟩))
theorem runn_cnt (R : Runn G0 s op G) (sf : Safe G0) : cntN G.N ≤ cntN G0.N + 255 := by
  have := (R.safe sf).1
  unfold psi at this
  omega
theorem rnd_pick (mr : MRspec C) (B : Beg G0 s op) (hC : ∀ c, (Safe G0 → c ≤ cntN G0.N + 255) → C c G0.room) (W : EWd h e G) (hw : w < G.P.ws.length) (h1 : 1 ≤ m) (hM : G.M + 10000 ≤ LB / 1000) (R : Rnd G0 s op m w G) {draw : Int}
    (hK : ∀ b h' G', EWd h' e G' → Eside e G h G' h' → G'.P.ws.length = G.P.ws.length → G.M ≤ G'.M → G'.M ≤ G.M + 2000 → Rnd G0 s op m (w + 1) G' → K (.bool b) h') : CallsH Tryz.prog 26 [ptrV e, .int .i64 (w : Int), .int .i64 draw] h K := by
  have hLB : LB = 140737488355328 := rfl
  obtain ⟨d, d6, ed⟩ := B.dst
  rcases R with F | ⟨R, ⟨j, hj, hd⟩, hm⟩ | ⟨R, ⟨j, hj, hd⟩, hm⟩ | ⟨hw0, hm, eG⟩
  · exact pick_none W (.inr (.inr (anyP_not (F.pend B)))) fun h1 O1 => hK _ h1 G (W.only0 O1) (Eside.only0 O1) rfl (Nat.le_refl _) (by omega) (.inl F)
  · -- the job is done: its result is taken
    obtain ⟨p1, p2⟩ := R.solo B
    have hid : (G.E.ses s).job = G0.P.last + 1 := by rw [R.sess]; rfl
    obtain ⟨j', hj', ej, gj⟩ := R.job
    have : j' = j := by rw [hj] at hj'; injection hj' with a; exact a.symm
    subst this
    have er := (runn_end B R W hj hd d6 ed (f' := G.f)).2
    refine solo_pick W B.s4 p1 p2 hw (fun h1 G1 => EWd h1 e G1 ∧ Eside e G h G1 h1 ∧ Fini G0 s op G1 ∧ G1.M ≤ G.M + 2 ∧ G.M ≤ G1.M) (fun I => ⟨I.1, fun k hk _ => I.2.2.1.pend B k hk⟩) (fun I O => ⟨I.1.only0 O, I.2.1.trans (Eside.only0 O), I.2.2⟩) (fun {h1 Q} O1 hQ => ?_) fun h1 G1 I => ?_
    · rw [step3 (by rw [R.sess]; exact B.kind)]
      refine works_done (W.only0 O1) B.s4 (x := 0) (j := j') (by rw [hj]; rfl) (by rw [ej, hid]) (by omega) hd er.1 er.2 d6 (by rw [R.sess]; exact ed) (by omega) (by rw [R.ans]; exact B.ans) fun h2 f2 W2 S2 => ?_
      refine hQ true h2 _ ⟨W2, (Eside.only0 O1).trans S2, (runn_end B R W hj hd d6 ed).1, ?_⟩
      unfold endG
      split
      · exact ⟨Nat.le_refl _, Nat.le_add_right _ _⟩
      · exact ⟨Nat.le_add_right _ _, Nat.le_refl _⟩
    · obtain ⟨W1, S1, F1, M1, M2⟩ := I
      refine pick_end mr W1 (by rw [F1.room]; exact hC _ F1.cnt) (by omega) (by rw [F1.ws, ← R.ws]; exact hw) fun h2 G2 W2 S2 P => ?_
      obtain ⟨k, -⟩ := P.kept
      have := k.M
      exact hK true h2 G2 W2 (S1.trans S2) (by rw [k.ws, F1.ws, R.ws]) (by omega) (by omega) (.inl (F1.kept B.s4 k))
  · -- the job is on its way
    obtain ⟨p1, p2⟩ := R.solo B
    have hid : (G.E.ses s).job = G0.P.last + 1 := by rw [R.sess]; rfl
    obtain ⟨j', hj', ej, gj⟩ := R.job
    have : j' = j := by rw [hj] at hj'; injection hj' with a; exact a.symm
    subst this
    refine solo_pick W B.s4 p1 p2 hw (fun h1 G1 => EWd h1 e G1 ∧ Eside e G h G1 h1 ∧ G1 = G) (fun I => ⟨I.1, fun k hk q => by rw [I.2.2]; exact p2 k hk (by omega)⟩) (fun I O => ⟨I.1.only0 O, I.2.1.trans (Eside.only0 O), I.2.2⟩) (fun {h1 Q} O1 hQ => ?_) fun h1 G1 I => ?_
    · rw [step3 (by rw [R.sess]; exact B.kind)]
      exact works_wait (W.only0 O1) B.s4 (x := 0) (j := j') (by rw [hj]; rfl) (by rw [ej, hid]) (by omega) hd (hQ false h1 G ⟨W.only0 O1, Eside.only0 O1, rfl⟩)
    · obtain ⟨W1, S1, e1⟩ := I
      subst e1
      refine pick_end mr W1 (by rw [R.room]; exact hC _ (runn_cnt R)) (by omega) hw fun h2 G2 W2 S2 P => ?_
      obtain ⟨k, kw, hkw, pr⟩ := P.kept
      have kM := k.M
      have R2 := R.kept k
      have ph := k.phi
      rw [R.n] at ph pr
      refine hK true h2 G2 W2 (S1.trans S2) k.ws (by omega) (by omega) ?_
      have m2 : 2 ≤ m := by rcases hm with q | ⟨q, -⟩ <;> omega
      obtain ⟨j2, hj2, -, -⟩ := R2.job
      rcases fin_cases j2 with d2 | d2
      · exact .inr (.inl ⟨R2, ⟨j2, hj2, d2⟩, .inl m2⟩)
      · refine .inr (.inr (.inl ⟨R2, ⟨j2, hj2, d2⟩, ?_⟩))
        rcases hm with q | ⟨q, w0, k0, hw0, hk0, hb0⟩
        · exact .inl (by omega)
        · rcases pr with z | ⟨z1, z2, z3⟩
          · exact .inl (by omega)
          · right
            refine ⟨by omega, ?_⟩
            obtain ⟨k1, hk1, e1⟩ := z3.2 w0 k0 hk0
            refine ⟨w0, k1, ?_, hk1, ?_⟩
            · apply Classical.byContradiction
              intro hn
              have : w0 = w := by omega
              subst this
              rw [hkw] at hk0
              injection hk0 with hk0
              subst hk0
              rcases hb0 with a | a
              · exact a z1
              · exact a z2
            · rw [e1.2.1, e1.2.2.1]; exact hb0
  · -- the job is handed over
    subst eG hw0 hm
    have p1 := B.pend
    have rf := refu_zero B.refu
    refine solo_pick W B.s4 p1 B.solo hw (fun h1 G1 => EWd h1 e G1 ∧ Eside e G h G1 h1 ∧ Runn G s op G1 ∧ phi G.n G1.N G1.P ≤ 1022 ∧ G1.M = G.M) (fun I => ⟨I.1, fun k hk q => (I.2.2.1.solo B).2 k hk (by omega)⟩) (fun I O => ⟨I.1.only0 O, I.2.1.trans (Eside.only0 O), I.2.2⟩) (fun {h1 Q} O1 hQ => ?_) fun h1 G1 I => ?_
    · rw [step3 B.kind]
      refine F127.spec _ _ h1 _ ?_
      unfold F127.w F127.J0
      have W1 := W.only0 O1
      simp only [add_mk, Nat.zero_add]
      refine ldI_of (W1.I.job B.s4 (by omega)) ?_
      rw [B.job, show (((0 : Nat) : Int) == 0) = true from rfl, bcase_true]
      refine submits172 W1 B.s4 B.kind B.eop B.join rf.2.2.1 B.noR (by rw [B.jobs]; decide) B.last fun h2 ws A W2 S2 hl dn ee mu nb ql => ldB_of rfl ?_
      obtain ⟨r1, r2, -⟩ := runn_sub B W hl ee mu nb ql
      exact hQ false h2 _ ⟨W2, (Eside.only0 O1).trans S2, r1, r2, rfl⟩
    · obtain ⟨W1, S1, R1, ph, eM⟩ := I
      refine pick_end mr W1 (by rw [R1.room]; exact hC _ (runn_cnt R1)) (by omega) (by rw [R1.ws]; exact hw) fun h2 G2 W2 S2 P => ?_
      obtain ⟨k, -⟩ := P.kept
      have kM := k.M
      have kp := k.phi
      rw [R1.n] at kp
      exact hK true h2 G2 W2 (S1.trans S2) (by rw [k.ws, R1.ws]) (by omega) (by omega) (rnd_run (R1.kept k) (by omega) (by omega))
set_option maxRecDepth 100000 in
theorem job_fair (mr : MRspec C) (B : Beg G0 s op) (W : EWd h e G0) (hC : ∀ c, (Safe G0 → c ≤ cntN G0.N + 255) → C c G0.room) (hK : ∀ h' G', EWd h' e G' → Eside e G0 h G' h' → G'.M ≤ G0.M + 20000000 → Fini G0 s op G' → K (.bool true) h') : CallsH Tryz.prog 42 [ptrV e] h K := by
  have hLB : LB = 140737488355328 := rfl
  have wl := W.W.Ok.len
  have bM := B.M
  refine fair42 (m := 1100)
    (fun m h1 G1 => EWd h1 e G1 ∧ Eside e G0 h G1 h1 ∧ G1.P.ws.length = G0.P.ws.length ∧ m ≤ 1100 ∧ G1.M ≤ G0.M + 2000 * (4 * (1100 - m)) ∧
      (Fini G0 s op G1 ∨ (Runn G0 s op G1 ∧ (∃ j, G1.P.jobs = [j] ∧ j.A.done = true) ∧ 1 ≤ m) ∨ (Runn G0 s op G1 ∧ (∃ j, G1.P.jobs = [j] ∧ j.A.done = false) ∧ phi G0.n G1.N G1.P + 2 ≤ m) ∨ (m = 1100 ∧ G1 = G0)))
    (fun m w h1 G1 => EWd h1 e G1 ∧ Eside e G0 h G1 h1 ∧ G1.P.ws.length = G0.P.ws.length ∧ 1 ≤ m ∧ m ≤ 1100 ∧ G1.M ≤ G0.M + 2000 * (4 * (1100 - m) + w) ∧ Rnd G0 s op m w G1)
    G0.P.ws.length wl.2 ⟨W, Eside.refl, rfl, Nat.le_refl _, by omega, .inr (.inr (.inr ⟨rfl, rfl⟩))⟩ (by omega) (fun I => I.1) (fun I => ⟨I.1, I.2.2.1⟩) (fun {m h1 G1} I a => ?_) (fun {m w h1 G1 Q draw} hw I hQ => ?_) (fun {m h1 G1} I => ?_) (fun m' h1 G1 _ I a => ?_)
  · obtain ⟨W1, S1, l1, m1, M1, I⟩ := I
    have one : 1 ≤ m ∧ Rnd G0 s op m 0 G1 := by
      rcases I with F | ⟨R, d, hm⟩ | ⟨R, ⟨j, hj, d⟩, hm⟩ | ⟨hm, eG⟩
      · exact absurd a (anyP_not (F.pend B))
      · exact ⟨hm, .inr (.inl ⟨R, d, .inr rfl⟩)⟩
      · obtain ⟨w0, k0, hk0, hb0⟩ := busy_of W1.W.Ok (j := j) (by rw [hj]; simp) d
        exact ⟨by omega, .inr (.inr (.inl ⟨R, ⟨j, hj, d⟩, .inr ⟨hm, w0, k0, Nat.zero_le _, hk0, hb0⟩⟩))⟩
      · exact ⟨by omega, .inr (.inr (.inr ⟨rfl, hm, eG⟩))⟩
    exact ⟨W1, S1, l1, one.1, m1, by omega, one.2⟩
  · obtain ⟨W1, S1, l1, m1, m2, M1, R1⟩ := I
    refine rnd_pick mr B hC W1 (by rw [l1]; exact hw) m1 (by omega) R1 fun b h2 G2 W2 S2 l2 a1 a2 R2 => ?_
    exact hQ b h2 G2 ⟨W2, S1.trans S2, l2.trans l1, m1, m2, by omega, R2⟩
  · obtain ⟨W1, S1, l1, m1, m2, M1, R1⟩ := I
    have nw := wl.1
    have nw4 := wl.2
    rcases R1 with F | ⟨R, d, hm⟩ | ⟨R, d, hm⟩ | ⟨hw, -, -⟩
    · exact ⟨0, by omega, W1, S1, l1, by omega, by omega, .inl F⟩
    · exact ⟨1, by omega, W1, S1, l1, by omega, by omega, .inr (.inl ⟨R, d, Nat.le_refl _⟩)⟩
    · refine ⟨m - 1, by omega, W1, S1, l1, by omega, by omega, .inr (.inr (.inl ⟨R, d, ?_⟩))⟩
      rcases hm with q | ⟨q, w0, k0, hw0, hk0, -⟩
      · omega
      · have := (List.getElem?_eq_some_iff.1 hk0).1
        omega
    · omega
  · obtain ⟨W1, S1, l1, m1, M1, I⟩ := I
    rcases I with F | ⟨R, -, -⟩ | ⟨R, -, -⟩ | ⟨-, eG⟩
    · exact hK h1 G1 W1 S1 (by omega) F
    · exact absurd ⟨s, B.s4, (R.solo B).1⟩ a
    · exact absurd ⟨s, B.s4, (R.solo B).1⟩ a
    · subst eG
      exact absurd ⟨s, B.s4, B.pend⟩ a
end
end
section
section
variable {h h' : Heap} {e s w op m add : Nat} {G G0 G' : EG} {K : Value → Heap → Prop} {C : Nat → Nat → Prop} {x' : Ses} {Φ : Nat → Nat → Bool}
end
end
section
abbrev Fns := Nat → Nat → Option (Nat → Bool)
def Md (G : EG) (F : Fns) : Prop := ∀ k, k < 4 → ∀ r, r < 6 → (F k r = none → (G.E.ses k).there r = false) ∧ ∀ f, F k r = some f → (G.E.ses k).there r = true ∧ ∀ y, sm G.n G.fo G.N ((G.E.ses k).hnd r) y = f y
def updF (F : Fns) (s d : Nat) (g : Option (Nat → Bool)) : Fns := fun k r => if k = s ∧ r = d then g else F k r
structure Qt (h : Heap) (e : Nat) (G : EG) (F : Fns) (t : Nat) : Prop where
  W : EWd h e G
  md : Md G F
  jobs : G.P.jobs = []
  pend : ∀ k, k < 4 → (G.E.ses k).pend = false
  last : G.P.last ≤ t
  M : G.M ≤ 30000000 * t
  ans : G.E.ans ≤ 4 * t
  cnt : cntN G.N ≤ 255 * t
  t : t < 1000
section
variable {h h' : Heap} {e s w op d t : Nat} {G G0 G1 G' : EG} {K : Value → Heap → Prop} {C : Nat → Nat → Prop} {F : Fns} {c : Cal}
theorem Qt.only0 (Q : Qt h e G F t) (O : Only [] h h') : Qt h' e G F t := ⟨Q.W.only0 O, Q.md, Q.jobs, Q.pend, Q.last, Q.M, Q.ans, Q.cnt, Q.t⟩
theorem locs_nil (W : EWd h e G) (hj : G.P.jobs = []) : locs G.P.ws = [] := by
  match hq : locs G.P.ws with
  | [] => rfl
  | x :: l =>
    obtain ⟨j, hj', -⟩ := W.W.Ok.at_ x (by rw [hq]; simp)
    rw [hj] at hj'
    cases hj'
theorem Md.set (m : Md G F) (hs : s < 4) {x : Ses} {v er num : Nat} (hd : d < 6) {g : Nat → Bool} (hn : G'.n = G.n) (hf : G'.fo = G.fo) (hx : x.there = (G.E.ses s).there ∧ x.hnd = (G.E.ses s).hnd) (es : G'.E.ses s = ansS (setS x d v) er num) (hv : ∀ y, sm G.n G.fo G'.N v y = g y)
    (oth : ∀ k, k < 4 → k ≠ s → (G'.E.ses k).there = (G.E.ses k).there ∧ (G'.E.ses k).hnd = (G.E.ses k).hnd)
    (old : ∀ k, k < 4 → ∀ r, r < 6 → (G.E.ses k).there r = true → (G'.E.ses k).there r = true → (G'.E.ses k).hnd r = (G.E.ses k).hnd r → ∀ y, sm G.n G.fo G'.N ((G.E.ses k).hnd r) y = sm G.n G.fo G.N ((G.E.ses k).hnd r) y) : Md G' (updF F s d (some g)) := fun k hk r hr => by
  unfold updF
  rw [hn, hf]
  by_cases q : k = s
  · subst q
    have tr : (G'.E.ses k).there r = if r = d then true else (G.E.ses k).there r := by
      rw [es]
      show upN x.there d true r = _
      rw [hx.1]
      rfl
    have hh : (G'.E.ses k).hnd r = if r = d then v else (G.E.ses k).hnd r := by
      rw [es]
      show upN x.hnd d v r = _
      rw [hx.2]
      rfl
    by_cases z : r = d
    · rw [if_pos ⟨rfl, z⟩]
      refine ⟨fun q => (by cases q), fun f q => ?_⟩
      injection q with q
      subst q
      rw [tr, hh, if_pos z, if_pos z]
      exact ⟨rfl, hv⟩
    · rw [if_neg (fun w => z w.2)]
      rw [if_neg z] at tr hh
      obtain ⟨m1, m2⟩ := m k hk r hr
      refine ⟨fun q => by rw [tr]; exact m1 q, fun f q => ?_⟩
      obtain ⟨a, b⟩ := m2 f q
      refine ⟨by rw [tr]; exact a, fun y => ?_⟩
      rw [hh, old k hk r hr a (by rw [tr]; exact a) hh y]
      exact b y
  · rw [if_neg (fun w => q w.1)]
    obtain ⟨o1, o2⟩ := oth k hk q
    obtain ⟨m1, m2⟩ := m k hk r hr
    refine ⟨fun z => by rw [o1]; exact m1 z, fun f z => ?_⟩
    obtain ⟨a, b⟩ := m2 f z
    refine ⟨by rw [o1]; exact a, fun y => ?_⟩
    rw [o2, old k hk r hr a (by rw [o1]; exact a) (by rw [o2]) y]
    exact b y
theorem now53 (hs : s < 4) (W : EWd h e G) (hp : (G.E.ses s).pend = false) (hm : c.mask < 256) (hr : refu G.n (G.E.ses s) c = 0) (R : EG → Prop)
    (fair : ∀ {h1} {Q : Value → Heap → Prop}, EWd h1 e (bgnG G s c) → (∀ h2 G2, EWd h2 e G2 → Eside e (bgnG G s c) h1 G2 h2 → R G2 → Q (.bool true) h2) → CallsH Tryz.prog 42 [ptrV e] h1 Q)
    (hR : ∀ {G2}, R G2 → (G2.E.ses s).ansd = true)
    (hK : ∀ h' G2, EWd h' e G2 → Eside e G h G2 h' → R G2 → K (.tuple #[.agg #[.int .i64 (G2.E.ses s).err, .int .u64 ((G2.E.ses s).num : Int)], .bool true]) h') :
    CallsH Tryz.prog 53 [ptrV e, .int .i64 (s : Int), calV c] h K := by
  refine F53.spec _ _ _ _ _ _ _ _ _ h K ?_
  unfold F53.w
  refine newK_at fun h1 A1 O1 z1 => newK_at fun h2 A2 O2 z2 => ?_
  have A1' := A1.only O2 (by simp)
  have r : ∀ k, rd h2 ⟨h.size, k, none⟩ = ([.int .i64 c.kind, .int .i64 c.op, .int .i64 c.dst, .int .i64 c.a, .int .i64 c.b, .int .i64 c.c, .int .u8 (c.mask : Int)] : List Value)[k]? := fun k => At.rd A1' k
  simp only [add_mk, Nat.zero_add]
  refine ldI_of (n := c.kind) (by rw [r]; rfl) (ldI_of (n := c.op) (by rw [r]; rfl) (ldI_of (n := c.dst) (by rw [r]; rfl) (ldI_of (n := c.a) (by rw [r]; rfl) (ldI_of (n := c.b) (by rw [r]; rfl) (ldI_of (n := c.c) (by rw [r]; rfl) (ldI_of (n := (c.mask : Int)) (by rw [r]; rfl) ?_))))))
  have O12 := O1.trans O2 (by simp)
  have W2 := W.only0 O12
  have lt := W.lt
  have z1' := O1.size
  refine e_begin (c := c) (i := (s : Int)) W2 hm (fun q => by omega) (fun k hk ek hp2 => ?_) (fun k hk ek hp2 hr2 => ?_) fun k hk ek hp2 hr2 h3 W3 S3 => ldI_of rfl ?_
  · have ek : k = s := by omega
    subst ek; rw [hp] at hp2; cases hp2
  · have ek : k = s := by omega
    subst ek; exact absurd hr hr2
  have ek : k = s := by omega
  subst ek
  rw [show ((0 : Int) != 0) = false from rfl, bcase_false]
  refine fair W3 fun h4 G2 W4 S4 R4 => ldB_of rfl ?_
  rw [Bool.not_true, bcase_false]
  refine answer43 W4.I (fun q => by omega) fun k' hk' ek' h5 O5 => ⟨_, _, _, rfl, ?_⟩
  have ek' : k' = k := by omega
  subst ek'
  have ha := hR R4
  rw [ha, if_pos rfl, if_pos rfl]
  have S24 : Eside e G h2 G2 h4 := S3.trans S4
  have A4 : At h4 h1.size [.int .i64 (0 : Int), .int .u64 (0 : Int)] := by
    have := S24.O (ebl e G) (fun b hb => hb)
    exact At.only A2 this fun hm => by have := lt _ hm; omega
  have A5 := A4.only O5 (by simp)
  refine stK_at A5 (by simp) rfl fun h6 A6 O6 z6 => stK_at A6 (by simp) rfl fun h7 A7 O7 z7 => ?_
  refine ldI_of (n := (G2.E.ses k').err) (by rw [At.rd A7]; rfl) (ldI_of (n := ((G2.E.ses k').num : Int)) (by rw [At.rd A7]; rfl) ?_)
  have nb : h1.size ∉ ebl e G2 := fun hm => by
    rcases S24.B _ hm with q | q
    · have := lt _ q; omega
    · have := A2.lt; omega
  have O57 : Only [h1.size] h5 h7 := O6.trans O7 fun b hb _ => hb
  have W5 := W4.only0 O5
  have W7 : EWd h7 e G2 := ⟨W5.W.only O57 (fun y hy hm => by simp at hy; subst hy; exact nb (mem_ebl.2 (.inr (.inl hm)))) (fun y hy hm => by simp at hy; subst hy; exact nb (mem_ebl.2 (.inr (.inr (.inr hm))))), W5.R.only O57 (fun y hy hm => by simp at hy; subst hy; exact nb (mem_ebl.2 (.inr (.inr (.inl hm))))), W5.I.only O57 (fun hm => by simp at hm; exact nb (mem_ebl.2 (.inl hm.symm))), W5.C, W5.de, W5.dB, W5.rg, W5.r0, W5.mq, W5.po⟩
  refine hK h7 G2 W7 ⟨fun T hT => ?_, fun b hb => ?_⟩ R4
  · have o1 : Only T h h4 := (O12.mono (by simp)).trans (S24.O T hT) fun b hb _ => hb
    exact (o1.trans (O5.mono (by simp)) fun b hb _ => hb).trans O57 fun b hb hl => by simp at hb; omega
  · rcases S24.B b hb with q | q
    · exact .inl q
    · exact .inr (by have := O12.size; omega)
theorem now_var (Q : Qt h e G F t) (hs : s < 4) (hd : d < 6) (hm : c.mask < G.n) (kd : c.kind = 1) (ed : c.dst = (d : Int)) (room : 255 * t + 5 < G.room)
    (hK : ∀ h' G', Qt h' e G' (updF F s d (some fun y => y.testBit c.mask)) (t + 1) → Eside e G h G' h' → (G'.n = G.n ∧ G'.fo = G.fo ∧ G'.room = G.room ∧ G'.gg = G.gg) → t + 1 < 1000 → K (.tuple #[.agg #[.int .i64 0, .int .u64 0], .bool true]) h') (ht : t + 1 < 1000) :
    CallsH Tryz.prog 53 [ptrV e, .int .i64 (s : Int), calV c] h K := by
  have hLB : LB = 140737488355328 := rfl
  have n8 : G.n ≤ 8 := Q.W.W.S.ok.2.2.1
  have rd0 : rds c = [] := by unfold rds; rw [if_neg (by omega), if_neg (by omega), if_neg (by omega)]
  have rf : ∀ x : Ses, refu G.n x c = 0 := fun x => by
    unfold refu refu2
    rw [if_neg (by omega), if_neg (fun w => w.2 (by rw [ed]; unfold isR; omega)), if_neg (fun w => w fun r hr => by rw [rd0] at hr; cases hr), if_neg (fun w => by omega), if_neg (fun w => by omega), if_neg (fun w => by omega)]
  have qM := Q.M
  have qa := Q.ans
  have qc := Q.cnt
  have sE : ∀ k, (bgnG G s c).E.ses k = if k = s then bgnS (G.E.ses s) c else G.E.ses k := fun k => rfl
  have Ea : Easy (bgnG G s c) := by
    refine ⟨Q.jobs, fun i hi hp => ?_, by show cntN G.N + 5 < G.room; omega, by show G.M + 20000 ≤ _; omega, by show G.E.ans + 10 < _; omega⟩
    rw [sE] at hp ⊢
    by_cases q : i = s
    · rw [if_pos q] at hp ⊢
      exact ⟨.inl kd, rf _⟩
    · rw [if_neg q, Q.pend i hi] at hp; cases hp
  have np : nPd (bgnG G s c).E 4 ≤ 4 := nPd_le 4
  refine now53 hs Q.W (Q.pend s hs) (by omega) (rf _) (fun G2 => Ran (bgnG G s c) 4 G2) (fun {h1 Q1} W1 hQ => easy_fair W1 Ea hQ) (fun {G2} R => ?_) fun h2 G2 W2 S2 R => ?_
  · obtain ⟨d', -, -, ⟨-, v, q, -⟩ | ⟨-, q⟩ | ⟨-, q⟩⟩ := (R.lo s hs hs).1 (by rw [sE, if_pos rfl]; rfl) <;> rw [q] <;> rfl
  · have L := (R.lo s hs hs).1 (by rw [sE, if_pos rfl]; rfl)
    rw [sE, if_pos rfl] at L
    obtain ⟨d', d6', ed', L⟩ := L
    have e1 : d' = d := by have e2 : c.dst = (d' : Int) := ed'; omega
    subst e1
    rcases L with ⟨-, v, q, sv⟩ | ⟨k, -⟩ | ⟨k, -⟩
    · have oth : ∀ k, k < 4 → k ≠ s → G2.E.ses k = G.E.ses k := fun k hk q => by
        have := (R.lo k hk hk).2 (by rw [sE, if_neg q]; exact Q.pend k hk)
        rw [sE, if_neg q] at this
        exact this
      have md := Q.md.set (G' := G2) hs (x := bgnS (G.E.ses s) c) (v := v) (er := 0) (num := 0) hd (g := fun y => y.testBit c.mask) R.n R.fo ⟨rfl, rfl⟩ q sv (fun k hk z => by rw [oth k hk z]; exact ⟨rfl, rfl⟩) (fun k hk r hr ht ht' he y => by
        have e3 : ((bgnG G s c).E.ses k).there = (G.E.ses k).there ∧ ((bgnG G s c).E.ses k).hnd = (G.E.ses k).hnd := by
          rw [sE]
          by_cases z : k = s
          · rw [if_pos z, z]; exact ⟨rfl, rfl⟩
          · rw [if_neg z]; exact ⟨rfl, rfl⟩
        have := R.old k hk r hr (by rw [e3.1]; exact ht) ht' (by rw [e3.2]; exact he) y
        rw [e3.2] at this
        exact this)
      have rc : cntN G2.N ≤ cntN G.N + 4 := R.cnt
      have rM : G2.M ≤ G.M + 1002 * 4 + 1000 := R.M.2
      have ra : G2.E.ans = G.E.ans + nPd (bgnG G s c).E 4 := R.ans
      have Q2 : Qt h2 e G2 (updF F s d' (some fun y => y.testBit c.mask)) (t + 1) := ⟨W2, md, R.jobs, R.none, by have : G2.P.last = G.P.last := R.last; have := Q.last; omega, by omega, by omega, by omega, ht⟩
      have := hK h2 G2 Q2 S2 ⟨R.n, R.fo, R.room, R.gg⟩ ht
      rw [q]
      exact this
    · exact absurd (show c.kind = 2 from k) (by omega)
    · exact absurd (show c.kind = 6 from k) (by omega)
end
end
section
def gF (F : Fns) (s : Nat) (c : Cal) (i : Nat) (y : Nat) : Bool := match (rds c)[i]? with | some r => (match F s r.toNat with | some f => f y | none => false) | none => false
section
variable {h h' : Heap} {e s w op d t : Nat} {G G0 G1 G' : EG} {K : Value → Heap → Prop} {C : Nat → Nat → Prop} {F : Fns} {c : Cal}
theorem rds_ok (md : Md G F) (hs : s < 4) (hr : ∀ r ∈ rds c, isR r ∧ ∃ f, F s r.toNat = some f) : rdsOk (G.E.ses s) c := fun r hm => by
  obtain ⟨a, f, b⟩ := hr r hm
  exact ⟨a, ((md s hs r.toNat (by unfold isR at a; omega)).2 f b).1⟩
theorem arg_fun (md : Md G F) (hs : s < 4) (hr : ∀ r ∈ rds c, isR r ∧ ∃ f, F s r.toNat = some f) (i y : Nat) : sm G.n G.fo G.N (argH (bgnS (G.E.ses s) c) i) y = gF F s c i y := by
  unfold gF argH
  show sm G.n G.fo G.N (match (rds c)[i]? with | some r => (G.E.ses s).hnd r.toNat | none => 0) y = _
  match hx : (rds c)[i]? with
  | none => exact sm_const (a := 0) (by omega)
  | some x =>
    obtain ⟨a, f, b⟩ := hr x (List.mem_of_getElem? hx)
    show sm G.n G.fo G.N ((G.E.ses s).hnd x.toNat) y = (match F s x.toNat with | some f => f y | none => false)
    rw [b]
    exact ((md s hs x.toNat (by unfold isR at a; omega)).2 f b).2 y
theorem refu_job (kd : c.kind = 3) (eo : c.op = (op : Int)) (hop : op = 1 ∨ op = 2 ∨ op = 3 ∨ op = 4 ∨ op = 5) (ed : c.dst = (d : Int)) (hd : d < 6) {n : Nat} {x : Ses} (ok : rdsOk x c) : refu n x c = 0 := by
  unfold refu refu2
  rw [if_neg (by omega), if_neg (fun w => w.2 (by rw [ed]; unfold isR; omega)), if_neg (fun w => w ok), if_neg, if_neg (fun w => by omega), if_neg (fun w => by omega)]
  intro w
  have := w.2
  rw [eo] at this
  rcases hop with z | z | z | z | z <;> subst z <;> cases this
theorem now_job (Q : Qt h e G F t) (hs : s < 4) (hd : d < 6) (hm : c.mask < 256) (kd : c.kind = 3) (eo : c.op = (op : Int)) (hop : op = 1 ∨ op = 2 ∨ op = 3 ∨ op = 4 ∨ op = 5) (ed : c.dst = (d : Int)) (hr : ∀ r ∈ rds c, isR r ∧ ∃ f, F s r.toNat = some f) (room : 255 * t + 255 < G.room) (ht : t + 1 < 1000)
    (hK : ∀ h' G', Qt h' e G' (updF F s d (some fun y => opF op (gF F s c 0 y) (gF F s c 1 y) (gF F s c 2 y))) (t + 1) → Eside e G h G' h' → (G'.n = G.n ∧ G'.fo = G.fo ∧ G'.room = G.room ∧ G'.gg = G.gg) → K (.tuple #[.agg #[.int .i64 0, .int .u64 0], .bool true]) h') :
    CallsH Tryz.prog 53 [ptrV e, .int .i64 (s : Int), calV c] h K := by
  have hLB : LB = 140737488355328 := rfl
  have qM := Q.M
  have qa := Q.ans
  have qc := Q.cnt
  have ql := Q.last
  have sE : ∀ k, (bgnG G s c).E.ses k = if k = s then bgnS (G.E.ses s) c else G.E.ses k := fun k => rfl
  have ss : (bgnG G s c).E.ses s = bgnS (G.E.ses s) c := by rw [sE, if_pos rfl]
  have ok := rds_ok Q.md hs hr
  have B : Beg (bgnG G s c) s op := ⟨hs, by rw [ss]; rfl, fun k hk q => by rw [sE, if_neg q]; exact Q.pend k hk, by rw [ss]; exact kd, by rw [ss]; exact eo, hop, by rw [ss]; exact refu_job kd eo hop ed hd ok, by rw [ss]; rfl, Q.jobs, (by have := locs_nil Q.W Q.jobs; exact this), by show G.P.last + 1 < _; omega, by show G.M + _ ≤ _; omega, by show G.E.ans < _; omega⟩
  have sf : Safe (bgnG G s c) := by show cntN G.N + 255 < G.room; omega
  refine now53 hs Q.W (Q.pend s hs) hm (refu_job kd eo hop ed hd ok) (fun G2 => G2.M ≤ G.M + 20000000 ∧ Fini (bgnG G s c) s op G2) (fun {h1 Q1} W1 hQ => job_fair mr_less B W1 (fun c0 hc => ?_) fun h2 G2 W2 S2 m2 F2 => hQ h2 G2 W2 S2 ⟨m2, F2⟩) (fun {G2} R => ?_) fun h2 G2 W2 S2 R => ?_
  · have := hc sf
    show c0 < G.room
    have : c0 ≤ cntN G.N + 255 := this
    omega
  · rcases R.2.res with ⟨d', v, -, -, q, -⟩ | ⟨-, q⟩ <;> rw [q] <;> rfl
  · obtain ⟨m2, R⟩ := R
    rcases R.res with ⟨d', v, d6', ed', q, sv⟩ | ⟨q, -⟩
    · rw [ss] at ed' q sv
      have e1 : d' = d := by have e2 : c.dst = (d' : Int) := ed'; omega
      subst e1
      have oth : ∀ k, k < 4 → k ≠ s → G2.E.ses k = G.E.ses k := fun k hk z => by
        have := R.oth k hk z
        rw [sE, if_neg z] at this
        exact this
      have md := Q.md.set (G' := G2) hs (x := jobS (bgnS (G.E.ses s) c) ((bgnG G s c).P.last + 1)) (v := v) (er := 0) (num := 0) hd (g := fun y => opF op (gF F s c 0 y) (gF F s c 1 y) (gF F s c 2 y)) R.n R.fo ⟨rfl, rfl⟩ q (fun y => by
        have := sv y
        rw [show (bgnG G s c).n = G.n from rfl, show (bgnG G s c).fo = G.fo from rfl, show (bgnG G s c).N = G.N from rfl, arg_fun Q.md hs hr, arg_fun Q.md hs hr, arg_fun Q.md hs hr] at this
        exact this) (fun k hk z => by rw [oth k hk z]; exact ⟨rfl, rfl⟩) (fun k hk r hr2 ht2 ht' he y => by
        have e3 : ((bgnG G s c).E.ses k).there = (G.E.ses k).there ∧ ((bgnG G s c).E.ses k).hnd = (G.E.ses k).hnd := by
          rw [sE]
          by_cases z : k = s
          · rw [if_pos z, z]; exact ⟨rfl, rfl⟩
          · rw [if_neg z]; exact ⟨rfl, rfl⟩
        have := R.old k hk r hr2 (by rw [e3.1]; exact ht2) ht' (by rw [e3.2]; exact he) y
        rw [e3.2] at this
        exact this)
      have rc : cntN G2.N ≤ cntN G.N + 255 := R.cnt sf
      have ra : G2.E.ans = G.E.ans + 1 := R.ans
      have rl : G2.P.last = G.P.last + 1 := R.last
      have Q2 : Qt h2 e G2 (updF F s d' (some fun y => opF op (gF F s c 0 y) (gF F s c 1 y) (gF F s c 2 y))) (t + 1) := ⟨W2, md, R.jobs, R.pend B, by omega, by omega, by omega, by omega, ht⟩
      have := hK h2 G2 Q2 S2 ⟨R.n, R.fo, R.room, R.gg⟩
      rw [q]
      exact this
    · exact absurd sf q
end
end
section
section
variable {n : Nat} {fo gg : Nat → Nat} {N : List (Option Nd)}
theorem sm_on (H : NOk n N) : ∀ (d : Nat) {a x y : Nat}, n - lvl n N a ≤ d → isN N a → (∀ l, lvl n N a ≤ l → l < n → x.testBit (fo l) = y.testBit (fo l)) → sm n fo N a x = sm n fo N a y := by
  intro d
  induction d with
  | zero =>
    intro a x y hd ha hb
    have h2 : a < 2 := by
      apply Classical.byContradiction
      intro hn
      have := (H.at ha (by omega)).1
      omega
    rw [sm_const h2, sm_const h2]
  | succ d ih =>
    intro a x y hd ha hb
    by_cases h2 : a < 2
    · rw [sm_const h2, sm_const h2]
    · obtain ⟨h3, h4, h5, -, h6, h7⟩ := H.at ha (by omega)
      rw [sm_node H ha (by omega), sm_node H ha (by omega), hb _ (Nat.le_refl _) h3, ih (a := high N a) (x := x) (y := y) (by omega) h5 (fun l hl => hb l (by omega)), ih (a := low N a) (x := x) (y := y) (by omega) h4 (fun l hl => hb l (by omega))]
theorem perm_inj (P : PermOk n fo gg) {l l' : Nat} (hl : l < n) (hl' : l' < n) (e : fo l = fo l') : l = l' := by
  rw [← (P.2 l hl).2, ← (P.2 l' hl').2, e]
theorem canon (H : NOk n N) (P : PermOk n fo gg) (n8 : n ≤ 8) : ∀ (d : Nat) {a b : Nat}, n - min (lvl n N a) (lvl n N b) ≤ d → isN N a → isN N b → (∀ x, x < 256 → sm n fo N a x = sm n fo N b x) → a = b := by
  have half : ∀ {a x : Nat} {v : Bool}, isN N a → 2 ≤ a → x < 256 → sm n fo N a (tob x (fo (lvl n N a)) v) = if v = true then sm n fo N (high N a) x else sm n fo N (low N a) x := fun {a x v} ha h2 hx => by
    obtain ⟨h3, h4, h5, -, h6, h7⟩ := H.at ha h2
    have f8 : fo (lvl n N a) < 8 := by have := (P.2 _ h3).1; omega
    have far : ∀ l, lvl n N a < l → l < n → (tob x (fo (lvl n N a)) v).testBit (fo l) = x.testBit (fo l) := fun l hl hn => by
      have fl : fo l < 8 := by have := (P.2 l hn).1; omega
      rw [tb_tob hx f8 v fl, if_neg]
      intro e
      have := perm_inj P h3 hn (by first | exact e | exact e.symm)
      omega
    rw [sm_node H ha h2, tb_tob hx f8 v f8, if_pos rfl]
    cases v with
    | true =>
      rw [if_pos rfl, if_pos rfl]
      exact sm_on H n (by omega) h5 fun l hl hn => far l (by omega) hn
    | false =>
      rw [if_neg (by simp), if_neg (by simp)]
      exact sm_on H n (by omega) h4 fun l hl hn => far l (by omega) hn
  have away : ∀ {b x l : Nat} {v : Bool}, isN N b → l < lvl n N b → l < n → x < 256 → sm n fo N b (tob x (fo l) v) = sm n fo N b x := fun {b x l v} hb hl hn hx => by
    have f8 : fo l < 8 := by have := (P.2 _ hn).1; omega
    refine sm_on H n (by omega) hb fun l' hl' hn' => ?_
    have fl : fo l' < 8 := by have := (P.2 l' hn').1; omega
    rw [tb_tob hx f8 v fl, if_neg]
    intro e
    have := perm_inj P hn hn' (by first | exact e | exact e.symm)
    omega
  intro d
  induction d with
  | zero =>
    intro a b hd ha hb he
    have a2 : a < 2 := by
      apply Classical.byContradiction
      intro hn
      have := (H.at ha (by omega)).1
      omega
    have b2 : b < 2 := by
      apply Classical.byContradiction
      intro hn
      have := (H.at hb (by omega)).1
      omega
    have := he 0 (by omega)
    rw [sm_const a2, sm_const b2] at this
    have e2 : (a == 1) = (b == 1) := this
    have : a = 0 ∨ a = 1 := by omega
    have : b = 0 ∨ b = 1 := by omega
    rcases ‹a = 0 ∨ a = 1› with q | q <;> rcases ‹b = 0 ∨ b = 1› with r | r <;> subst q r <;> first | rfl | (simp at e2)
  | succ d ih =>
    have above : ∀ {a b : Nat}, n - min (lvl n N a) (lvl n N b) ≤ d + 1 → isN N a → isN N b → (∀ x, x < 256 → sm n fo N a x = sm n fo N b x) → lvl n N a < lvl n N b → False := fun {a b} hd ha hb he hl => by
      have a2 : 2 ≤ a := by
        apply Classical.byContradiction
        intro hn
        have e1 : lvl n N a = n := by unfold lvl; rw [if_pos (by omega)]
        have := lvl_le H hb
        omega
      obtain ⟨h3, h4, h5, hne, h6, h7⟩ := H.at ha a2
      apply hne
      refine ih (by omega) h4 h5 fun x hx => ?_
      have f8 : fo (lvl n N a) < 8 := by have := (P.2 _ h3).1; omega
      have e1 := he (tob x (fo (lvl n N a)) false) (tobl hx f8 _)
      have e2 := he (tob x (fo (lvl n N a)) true) (tobl hx f8 _)
      rw [half ha a2 hx, away hb hl h3 hx] at e1 e2
      rw [if_neg (by simp)] at e1
      rw [if_pos rfl] at e2
      rw [e1, e2]
    intro a b hd ha hb he
    by_cases a2 : 2 ≤ a
    · by_cases b2 : 2 ≤ b
      · by_cases hl : lvl n N a = lvl n N b
        · obtain ⟨a3, a4, a5, -, a6, a7⟩ := H.at ha a2
          obtain ⟨b3, b4, b5, -, b6, b7⟩ := H.at hb b2
          have f8 : fo (lvl n N a) < 8 := by have := (P.2 _ a3).1; omega
          have el : low N a = low N b := by
            refine ih (by omega) a4 b4 fun x hx => ?_
            have e1 := he (tob x (fo (lvl n N a)) false) (tobl hx f8 _)
            rw [half ha a2 hx, hl, half hb b2 hx, if_neg (by simp), if_neg (by simp)] at e1
            exact e1
          have eh : high N a = high N b := by
            refine ih (by omega) a5 b5 fun x hx => ?_
            have e1 := he (tob x (fo (lvl n N a)) true) (tobl hx f8 _)
            rw [half ha a2 hx, hl, half hb b2 hx, if_pos rfl, if_pos rfl] at e1
            exact e1
          rcases ha with q | ⟨x, hx⟩
          · omega
          rcases hb with q | ⟨y, hy⟩
          · omega
          have la : lvl n N a = x.1 ∧ low N a = x.2.1 ∧ high N a = x.2.2 := by
            unfold lvl low high
            rw [if_neg (by omega), if_neg (by omega), if_neg (by omega), hx]
            exact ⟨rfl, rfl, rfl⟩
          have lb : lvl n N b = y.1 ∧ low N b = y.2.1 ∧ high N b = y.2.2 := by
            unfold lvl low high
            rw [if_neg (by omega), if_neg (by omega), if_neg (by omega), hy]
            exact ⟨rfl, rfl, rfl⟩
          have exy : x = y := by
            obtain ⟨x1, x2, x3⟩ := x
            obtain ⟨y1, y2, y3⟩ := y
            have c1 : x1 = y1 := la.1.symm.trans (hl.trans lb.1)
            have c2 : x2 = y2 := la.2.1.symm.trans (el.trans lb.2.1)
            have c3 : x3 = y3 := la.2.2.symm.trans (eh.trans lb.2.2)
            rw [c1, c2, c3]
          subst exy
          have := H.once _ _ _ hx hy
          omega
        · by_cases h : lvl n N a < lvl n N b
          · exact (above hd ha hb he h).elim
          · exact (above (by rw [Nat.min_comm]; exact hd) hb ha (fun x hx => (he x hx).symm) (by omega)).elim
      · have e1 : lvl n N b = n := by unfold lvl; rw [if_pos (by omega)]
        exact (above hd ha hb he (by rw [e1]; exact (H.at ha a2).1)).elim
    · by_cases b2 : 2 ≤ b
      · have e1 : lvl n N a = n := by unfold lvl; rw [if_pos (by omega)]
        exact (above (by rw [Nat.min_comm]; exact hd) hb ha (fun x hx => (he x hx).symm) (by rw [e1]; exact (H.at hb b2).1)).elim
      · have := he 0 (by omega)
        rw [sm_const (by omega), sm_const (by omega)] at this
        have e2 : (a == 1) = (b == 1) := this
        have qa : a = 0 ∨ a = 1 := by omega
        have qb : b = 0 ∨ b = 1 := by omega
        rcases qa with q | q <;> rcases qb with r | r <;> subst q r <;> first | rfl | (simp at e2)
end
end
section
section
variable {h : Heap} {K : Value → Heap → Prop}
theorem fill_8' {n : Nat} (hn : n ≤ 8) : ∀ j, j < n → fill n j < 8 := fun j hj => by rw [show fill n j = j from if_pos hj]; omega
set_option maxRecDepth 100000 in
theorem known40 (hK : ∀ h', Only [] h h' → K (.bool true) h') : CallsH Tryz.prog 40 [] h K := by
  have hLB : LB = 140737488355328 := rfl
  refine F40.spec h K ?_
  unfold F40.w
  refine new18 (n := 4) (room := 16400) (by omega) (by omega) (by omega) (by omega) fun h1 e G W1 s1 a1 n1 m1 f1 g1 _ N1 j1 w1 _ _ M1 b1 O1 => ⟨_, _, rfl, ?_⟩
  refine new18_bad (n := 9) (by omega) (by omega) ⟨_, _, rfl, ?_⟩
  rw [show ((0 : Int) != 0) = false from rfl, bcase_false, show (Option.isNone (some (Addr.mk e 0 none))) = false from rfl, bcase_false, show ((40 : Int) != 40) = false from rfl, bcase_false]
  refine workers27 W1 (ldI_of rfl ?_)
  rw [w1, show ((((wkn 2 : Nat) : Int)) != (2 : Int)) = false from rfl, bcase_false]
  refine e_begin (c := ⟨1, 0, 1, 0, 0, 0, 2⟩) (i := 0) W1 (by show 2 < 256; omega) (fun q => by omega) (fun k hk ek hp => ?_) (fun k hk ek hp hr => ?_) fun k hk ek hp hr h2 W2 S2 => ldI_of rfl ?_
  · rw [s1] at hp; cases hp
  · exfalso
    apply hr
    rw [n1]
    unfold refu refu2
    rw [if_neg (by decide), if_neg (by decide), if_neg, if_neg (by decide), if_neg (by decide), if_neg (by decide)]
    intro q
    exact q fun r hr => by simp [rds] at hr
  have ek : k = 0 := by omega
  subst ek
  refine e_begin (c := ⟨6, 0, 0, 0, 0, 0, 0⟩) (i := 0) W2 (by show 0 < 256; omega) (fun q => by omega) (fun k hk ek _ h3 O3 => ldI_of rfl ?_) (fun k hk ek hp2 _ => ?_) fun k hk ek hp2 _ => ?_
  rotate_left
  · have ek : k = 0 := by omega
    subst ek
    rw [show ((bgnG G 0 ⟨1, 0, 1, 0, 0, 0, 2⟩).E.ses 0).pend = true from rfl] at hp2
    cases hp2
  · have ek : k = 0 := by omega
    subst ek
    rw [show ((bgnG G 0 ⟨1, 0, 1, 0, 0, 0, 2⟩).E.ses 0).pend = true from rfl] at hp2
    cases hp2
  have W3 := W2.only0 O3
  have e1s : ((bgnG G 0 ⟨1, 0, 1, 0, 0, 0, 2⟩).E.ses 1) = (eng0 0 0 0).ses 1 := by rw [← s1]; rfl
  have nok : ¬ rdsOk ((bgnG G 0 ⟨1, 0, 1, 0, 0, 0, 2⟩).E.ses 1) ⟨4, 0, 0, 0, 0, 0, 0⟩ := fun q => by
    have := (q 0 (by simp [rds])).2
    rw [e1s] at this
    cases this
  have rv : refu (bgnG G 0 ⟨1, 0, 1, 0, 0, 0, 2⟩).n ((bgnG G 0 ⟨1, 0, 1, 0, 0, 0, 2⟩).E.ses 1) ⟨4, 0, 0, 0, 0, 0, 0⟩ = 221 := by
    unfold refu
    rw [if_neg (by decide), if_neg (by decide), if_pos nok]
  refine e_begin (c := ⟨4, 0, 0, 0, 0, 0, 0⟩) (i := 1) W3 (by show 0 < 256; omega) (fun q => by omega) (fun k hk ek hp2 => ?_) (fun k hk ek _ hr h4 O4 => ldI_of rfl ?_) fun k hk ek _ hr => ?_
  · have ek : k = 1 := by omega
    subst ek
    rw [e1s] at hp2
    cases hp2
  rotate_left
  · have ek : k = 1 := by omega
    subst ek
    rw [rv] at hr
    cases hr
  have ek : k = 1 := by omega
  subst ek
  rw [rv, show ((0 : Int) != 0) = false from rfl, bcase_false, show ((220 : Int) != 220) = false from rfl, bcase_false, show ((221 : Int) != 221) = false from rfl, bcase_false]
  have W4 := W3.only0 O4
  obtain ⟨G2, eG2⟩ : ∃ G2, G2 = bgnG G 0 ⟨1, 0, 1, 0, 0, 0, 2⟩ := ⟨_, rfl⟩
  rw [← eG2] at W4 S2
  have sG2 : ∀ k, k ≠ 0 → G2.E.ses k = (eng0 0 0 0).ses k := fun k hk => by rw [eG2, ← s1]; exact upN_ne hk
  have sG0 : G2.E.ses 0 = bgnS ((eng0 0 0 0).ses 0) ⟨1, 0, 1, 0, 0, 0, 2⟩ := by rw [eG2, ← s1]; rfl
  refine pending56 W4.I (fun q => by omega) fun k hk ek => ldB_of rfl ?_
  have ek : k = 0 := by omega
  subst ek
  rw [sG0, show (bgnS ((eng0 0 0 0).ses 0) ⟨1, 0, 1, 0, 0, 0, 2⟩).pend = true from rfl, Bool.not_true, bcase_false]
  have Ea : Easy G2 := by
    refine ⟨by rw [eG2]; exact j1, fun i hi hp => ?_, by rw [eG2]; show cntN G.N + 5 < G.room; rw [N1, m1]; decide, by rw [eG2]; show G.M + 20000 ≤ _; rw [M1, hLB]; decide, by rw [eG2]; show G.E.ans + 10 < _; rw [a1]; decide⟩
    by_cases q : i = 0
    · subst q
      rw [sG0, eG2]
      refine ⟨.inl rfl, ?_⟩
      show refu G.n _ _ = 0
      rw [n1]
      unfold refu refu2
      rw [if_neg (by decide), if_neg (by decide), if_neg, if_neg (by decide), if_neg (by decide), if_neg (by decide)]
      intro q
      exact q fun r hr => by simp [rds, bgnS] at hr
    · rw [sG2 i q] at hp; cases hp
  refine easy_fair W4 Ea fun h5 G5 W5 S5 R5 => ldB_of rfl ?_
  rw [Bool.not_true, bcase_false]
  obtain ⟨d, d6, ed, L⟩ := (R5.lo 0 (by omega) (by omega)).1 (by rw [sG0]; rfl)
  have z4 : G2.n = 4 := by rw [eG2]; exact n1
  have zf : G2.fo = fill 4 := by rw [eG2]; exact f1
  rw [sG0] at ed L
  have d1 : d = 1 := by have : (1 : Int) = (d : Int) := ed; omega
  subst d1
  rcases L with ⟨-, v, e5, sv⟩ | ⟨k, -⟩ | ⟨k, -⟩
  rotate_left
  · cases k
  · cases k
  refine answer43 W5.I (fun q => by omega) fun k hk ek h6 O6 => ⟨_, _, _, rfl, ?_⟩
  have ek : k = 0 := by omega
  subst ek
  rw [e5]
  have W6 := W5.only0 O6
  refine newK_at fun h7 A7 O7 z7 => ?_
  refine stK_at (i := 0) A7 (by simp) rfl fun h8 A8 O8 z8 => ?_
  refine stK_at (i := 1) A8 (by simp) rfl fun h9 A9 O9 z9 => ?_
  have O79 : Only [] h6 h9 := (O7.trans O8 (by intro x hx hl; simp at hx; omega)).trans O9 (by intro x hx hl; simp at hx; omega)
  have W9 := W6.only0 O79
  refine reg28 W9.I ⟨_, _, rfl, ?_⟩
  have rV : regV G5.E 0 1 = ((v : Int), true) := by
    unfold regV
    rw [if_pos ⟨by omega, by unfold isR; omega⟩, show Int.toNat 0 = 0 from rfl, show Int.toNat 1 = 1 from rfl, e5]
    rfl
  rw [rV]
  show bcase true _ _
  rw [bcase_true]
  refine ldI_of (n := 0) (by rw [add_mk, At.rd A9]; rfl) ?_
  rw [show ((0 : Int) == 0) = true from rfl, bcase_true, bcase_true]
  refine store23 W9.I (ldP_of rfl ?_)
  refine var28 (v := 2) fun h10 g hg eg O10 => ⟨_, _, _, _, rfl, ?_⟩
  have W10 := W9.only0 O10
  have hv : isN G5.N v := by
    have := W5.rg 0 (by omega) 1 (by omega) (by rw [e5]; rfl)
    rw [e5] at this
    exact this
  have n5 : G5.n = 4 := R5.n.trans z4
  have f5 : G5.fo = fill 4 := R5.fo.trans zf
  refine is58 (X := XL G5.n G5.room G5.fo G5.gg G5.N G5.off) (fun j hj => ?_) W10.W.S hv hg (fun y hy => ?_) fun h11 O11 => ldB_of rfl ?_
  · show G5.fo j < 8
    rw [f5]
    exact fill_8' (n := 4) (by omega) j (by rw [← n5]; exact hj)
  · show sm G5.n G5.fo G5.N v y = fb g y
    rw [eg y hy, R5.n, R5.fo, sv y]
    rfl
  rw [bcase_true]
  have W11 := W10.only0 O11
  refine answered54 W11.I (ldI_of rfl ?_)
  have ea : G5.E.ans = 1 := by
    rw [R5.ans]
    have a2 : G2.E.ans = 0 := by rw [eG2]; exact a1
    rw [a2]
    unfold nPd sumN sumN sumN sumN sumN
    rw [sG0, sG2 1 (by omega), sG2 2 (by omega), sG2 3 (by omega)]
    rfl
  rw [ea]
  have OO : Only [] h h5 := by
    have b2 : ∀ b ∈ ebl e G2, h.size ≤ b := by
      intro b hb
      rcases S2.B b hb with q | q
      · exact b1 b q
      · have := O1.size; omega
    exact S5.only (((S2.only O1 b1).trans O3 (by simp)).trans O4 (by simp)) b2
  exact hK h11 ((((OO.trans O6 (by simp)).trans O79 (by simp)).trans O10 (by simp)).trans O11 (by simp))
end
end
section
section
variable {h0 h h' : Heap} {e s k : Nat} {G G' : EG} {K : Value → Heap → Prop}
end
end
section
def opCal (o : Nat) : Cal := ⟨3, ((2 + o % 3 : Nat) : Int), ((o / 3 % 4 : Nat) : Int), ((o / 12 % 4 : Nat) : Int), ((o / 48 % 4 : Nat) : Int), 0, 0⟩
def varCal (k : Nat) : Cal := ⟨1, 0, (k : Int), 0, 0, 0, k⟩
theorem tm {a b : Nat} (hb : 0 < b) : Int.tmod (a : Int) (b : Int) = ((a % b : Nat) : Int) := by
  rw [Int.tmod_eq_emod_of_nonneg (by omega)]; omega
theorem td {a b : Nat} : Int.tdiv (a : Int) (b : Int) = ((a / b : Nat) : Int) := by
  rw [Int.tdiv_eq_ediv_of_nonneg (by omega)]; omega
theorem w64 {a : Nat} (h : a < 1000000) : IntKind.wrap .i64 (a : Int) = (a : Int) := wrap_i64 (by omega) (by omega)
theorem op_cal {o : Nat} (h : o < 256) : calV (opCal o) = .agg #[.int .i64 (3 : Int), .int .i64 (IntKind.wrap .i64 ((2 : Int) + (IntKind.wrap .i64 (Int.tmod (o : Int) (3 : Int))))), .int .i64 (IntKind.wrap .i64 (Int.tmod (IntKind.wrap .u8 (Int.tdiv (o : Int) (3 : Int))) (4 : Int))), .int .i64 (IntKind.wrap .i64 (Int.tmod (IntKind.wrap .u8 (Int.tdiv (o : Int) (12 : Int))) (4 : Int))), .int .i64 (IntKind.wrap .i64 (Int.tmod (IntKind.wrap .u8 (Int.tdiv (o : Int) (48 : Int))) (4 : Int))), .int .i64 (0 : Int), .int .u8 (0 : Int)] := by
  have e1 : IntKind.wrap .i64 ((2 : Int) + (IntKind.wrap .i64 (Int.tmod (o : Int) (3 : Int)))) = ((2 + o % 3 : Nat) : Int) := by
    rw [show (3 : Int) = ((3 : Nat) : Int) from rfl, tm (by omega), w64 (by omega), show (2 : Int) + ((o % 3 : Nat) : Int) = ((2 + o % 3 : Nat) : Int) by omega, w64 (by omega)]
  have e2 : ∀ k : Nat, 0 < k → IntKind.wrap .i64 (Int.tmod (IntKind.wrap .u8 (Int.tdiv (o : Int) (k : Int))) (4 : Int)) = ((o / k % 4 : Nat) : Int) := fun k hk => by
    have l1 : o / k ≤ o := Nat.div_le_self _ _
    have l2 : o / k % 4 < 4 := Nat.mod_lt _ (by omega)
    rw [td, wrap8 (by omega), show (4 : Int) = ((4 : Nat) : Int) from rfl, tm (by omega), w64 (by omega)]
  have e3 := e2 3 (by omega)
  have e4 := e2 12 (by omega)
  have e5 := e2 48 (by omega)
  rw [e1]
  rw [show ((3 : Nat) : Int) = 3 from rfl] at e3
  rw [show ((12 : Nat) : Int) = 12 from rfl] at e4
  rw [show ((48 : Nat) : Int) = 48 from rfl] at e5
  rw [e3, e4, e5]
  rfl
def opFns (F : Fns) (s o : Nat) : Fns := updF F s (o / 3 % 4) (some fun y => opF (2 + o % 3) (gF F s (opCal o) 0 y) (gF F s (opCal o) 1 y) (gF F s (opCal o) 2 y))
def varFns (F : Fns) (s k : Nat) : Fns := updF F s k (some fun y => y.testBit k)
def has4 (F : Fns) (s : Nat) : Prop := ∀ r, r < 4 → ∃ f, F s r = some f
theorem op_rds {o : Nat} : rds (opCal o) = [((o / 12 % 4 : Nat) : Int), ((o / 48 % 4 : Nat) : Int)] := by
  unfold rds
  rw [if_neg (by show ¬ (3 : Int) = 4; omega), if_neg (by show ¬ (3 : Int) = 5; omega), if_pos (by show (3 : Int) = 3; rfl)]
  have : takesZ ((2 + o % 3 : Nat) : Int) = 2 := by
    have : o % 3 = 0 ∨ o % 3 = 1 ∨ o % 3 = 2 := by omega
    rcases this with z | z | z <;> rw [z] <;> rfl
  show List.take (takesZ ((2 + o % 3 : Nat) : Int)).toNat _ = _
  rw [this]
  rfl
theorem op_reads {F : Fns} {s o : Nat} (H : has4 F s) : ∀ r ∈ rds (opCal o), isR r ∧ ∃ f, F s r.toNat = some f := fun r hr => by
  rw [op_rds] at hr
  simp only [List.mem_cons, List.not_mem_nil, or_false] at hr
  rcases hr with z | z <;> subst z
  · exact ⟨by unfold isR; omega, by rw [Int.toNat_natCast]; exact H _ (by omega)⟩
  · exact ⟨by unfold isR; omega, by rw [Int.toNat_natCast]; exact H _ (by omega)⟩
section
variable {h h' : Heap} {e s t : Nat} {G G' : EG} {K : Value → Heap → Prop} {F : Fns}
theorem now_op (Q : Qt h e G F t) (hs : s < 4) {o : Nat} (H : has4 F s) (room : 255 * t + 255 < G.room) (ht : t + 1 < 1000)
    (hK : ∀ h' G', Qt h' e G' (opFns F s o) (t + 1) → Eside e G h G' h' → (G'.n = G.n ∧ G'.fo = G.fo ∧ G'.room = G.room ∧ G'.gg = G.gg) → K (.tuple #[.agg #[.int .i64 0, .int .u64 0], .bool true]) h') :
    CallsH Tryz.prog 53 [ptrV e, .int .i64 (s : Int), calV (opCal o)] h K :=
  now_job (op := 2 + o % 3) (d := o / 3 % 4) Q hs (by omega) (by show 0 < 256; omega) rfl rfl (by omega) rfl (op_reads H) room ht hK
theorem now_v (Q : Qt h e G F t) (hs : s < 4) {k : Nat} (hk : k < 4) (hn : k < G.n) (room : 255 * t + 255 < G.room) (ht : t + 1 < 1000)
    (hK : ∀ h' G', Qt h' e G' (varFns F s k) (t + 1) → Eside e G h G' h' → (G'.n = G.n ∧ G'.fo = G.fo ∧ G'.room = G.room ∧ G'.gg = G.gg) → K (.tuple #[.agg #[.int .i64 0, .int .u64 0], .bool true]) h') :
    CallsH Tryz.prog 53 [ptrV e, .int .i64 (s : Int), calV (varCal k)] h K :=
  now_var (d := k) (c := varCal k) Q hs (by omega) hn rfl rfl (by omega) (fun h' G' Q' S' k' _ => hK h' G' Q' S' k') ht
end
end
section
end
section
theorem toNats {zs : List Int} (hz : ∀ z ∈ zs, IntKind.min .u8 ≤ z ∧ z ≤ IntKind.max .u8) : zs = (zs.map Int.toNat).map fun (o : Nat) => (o : Int) := by
  induction zs with
  | nil => rfl
  | cons z l ih =>
    have h1 := hz z (by simp)
    have h2 := ih fun y hy => hz y (by simp [hy])
    have : (0 : Int) ≤ z := h1.1
    rw [List.map_cons, List.map_cons, ← h2]
    congr 1
    omega
theorem toNat_lt {zs : List Int} (hz : ∀ z ∈ zs, IntKind.min .u8 ≤ z ∧ z ≤ IntKind.max .u8) : ∀ o ∈ zs.map Int.toNat, o < 256 := fun o ho => by
  obtain ⟨z, hz', e⟩ := List.mem_map.1 ho
  have h1 := hz z hz'
  have h2 : z ≤ 255 := h1.2
  omega
theorem Eside.at {h h' : Heap} {e b : Nat} {G G' : EG} {c : List Value} (S : Eside e G h G' h') (A : At h b c) (nb : b ∉ ebl e G) : At h' b c ∧ b ∉ ebl e G' :=
  ⟨A.only (S.O (ebl e G) fun _ h => h) nb, fun hm => by
    rcases S.B b hm with q | q
    · exact nb q
    · have := A.lt; omega⟩
def noF : Fns := fun _ _ => none
theorem qt_new {h : Heap} {e : Nat} {G : EG} (W : EWd h e G) (s1 : G.E.ses = (eng0 0 0 0).ses) (a1 : G.E.ans = 0) (N1 : G.N = []) (j1 : G.P.jobs = []) (l1 : G.P.last = 0) (M1 : G.M = 0) : Qt h e G noF 0 :=
  ⟨W, fun k _ r _ => ⟨fun _ => by rw [s1]; rfl, fun f q => by cases q⟩, j1, fun k _ => by rw [s1]; rfl, by omega, by omega, by omega, by rw [N1]; exact Nat.le_refl _, by omega⟩
end
section
namespace F8
def T : Hint := ⟨[(10, [0, 1, 7, 9, 10]), (15, [0, 1, 7, 9, 10, 11]), (19, [0, 1, 7, 9, 10, 11, 12]), (23, [0, 1, 7, 9, 10, 11, 13]), (27, [7]), (28, [7, 17])], []⟩
noncomputable def body : Code := (Tryz.f8.body).getD .skip
noncomputable def en (S : Stop) (p : List Nat) (κ : XK) : Fr → Heap → Prop := E Tryz.prog X T S (sub body p) κ
noncomputable def ln (S : Stop) (p : List Nat) (κ : XK) (n : Nat) : Fr → Heap → Prop := loopN S (E Tryz.prog X T S (sub body p)) (cutQ T (sub body p)) κ n
def fn (K : KK) : XK := fin Tryz.prog Tryz.f8.results.toList K
noncomputable def c0 (S : Stop) (K : KK) : XK := seqN S (cutQ T (sub body [1, 1, 1, 1, 1, 1, 1])) (en S [1, 1, 1, 1, 1, 1, 1] (fn K)) (fn K)
noncomputable def c1 (S : Stop) (K : KK) : XK := blockN 0 (c0 S K)
noncomputable def c2 (S : Stop) (n10 : Nat) (K : KK) : XK := backN S (cutQ T (sub body [1, 1, 1, 1, 1, 1, 0, 1, 0, 0])) (ln S [1, 1, 1, 1, 1, 1, 0, 1, 0, 0] (c1 S K) n10) (c1 S K)
noncomputable def c3 (S : Stop) (n10 : Nat) (K : KK) : XK := seqN S (cutQ T (sub body [1, 1, 1, 1, 1, 1, 0, 1, 0, 0, 1, 1])) (en S [1, 1, 1, 1, 1, 1, 0, 1, 0, 0, 1, 1] (c2 S n10 K)) (c2 S n10 K)
noncomputable def c4 (S : Stop) (n10 : Nat) (K : KK) : XK := blockN 1 (c3 S n10 K)
noncomputable def c5 (S : Stop) (K : KK) : XK := seqN S (cutQ T (sub body [1, 1, 1, 1, 1, 1, 1, 1])) (en S [1, 1, 1, 1, 1, 1, 1, 1] (fn K)) (fn K)
noncomputable def c6 (S : Stop) (K : KK) : XK := blockN 2 (c5 S K)
noncomputable def c7 (S : Stop) (n28 : Nat) (K : KK) : XK := backN S (cutQ T (sub body [1, 1, 1, 1, 1, 1, 1, 0, 1, 0, 0])) (ln S [1, 1, 1, 1, 1, 1, 1, 0, 1, 0, 0] (c6 S K) n28) (c6 S K)
def f10 (d : Option Addr) (a f : Nat) (c : Option Addr) (b g : Nat) (j : Option Addr) (o : Addr) (i : Int) : Fr := [(0, (.slice d a f)), (1, (.slice c b g)), (7, (.pointer j)), (9, (.pointer (some o))), (10, (.int .i64 i))]
def f15 (d : Option Addr) (a f : Nat) (c : Option Addr) (b g : Nat) (j : Option Addr) (o : Addr) (i l : Int) : Fr := [(0, (.slice d a f)), (1, (.slice c b g)), (7, (.pointer j)), (9, (.pointer (some o))), (10, (.int .i64 i)), (11, (.int .i64 l))]
def f19 (d : Option Addr) (a f : Nat) (c : Option Addr) (b g : Nat) (j : Option Addr) (o : Addr) (i l s : Int) : Fr := [(0, (.slice d a f)), (1, (.slice c b g)), (7, (.pointer j)), (9, (.pointer (some o))), (10, (.int .i64 i)), (11, (.int .i64 l)), (12, (.int .i64 s))]
def f23 (d : Option Addr) (a f : Nat) (c : Option Addr) (b g : Nat) (j : Option Addr) (o : Addr) (i l : Int) (r : Addr) : Fr := [(0, (.slice d a f)), (1, (.slice c b g)), (7, (.pointer j)), (9, (.pointer (some o))), (10, (.int .i64 i)), (11, (.int .i64 l)), (13, (.pointer (some r)))]
def f27 (j : Option Addr) : Fr := [(7, (.pointer j))]
def f28 (j : Option Addr) (q : Int) : Fr := [(7, (.pointer j)), (17, (.int .i64 q))]
def J0 (k10 : (Option Addr) → Nat → Nat → (Option Addr) → Nat → Nat → (Option Addr) → Addr → Int → Heap → Prop) (d : Option Addr) (a f : Nat) (c : Option Addr) (b g : Nat) (t : Int) (h : Heap) (K : KK) : Prop :=
  Cl 40 [] h (fun v1 h2 => ldB (some v1) (fun b3 => bcase (!b3) (K (.bool false) h2) (bcase (decide ((Nat.cast a : Int) > (12 : Int))) (K (.bool true) h2) (bcase (decide ((Nat.cast b : Int) > (40 : Int))) (K (.bool true) h2) (((4 : Int) ≠ 0 ∧ Cl 18 [(.int .i64 8), (.int .i64 16384), (.int .i64 (IntKind.wrap .i64 ((IntKind.wrap .i64 (Int.tmod t (4 : Int))) + (1 : Int))))] h2 (fun v4 h5 => (∃ p6 : Option Addr, ∃ n7 : Int, v4 = (.tuple #[(.pointer p6), (.int .i64 n7)]) ∧ bcase (n7 != (0 : Int)) (K (.bool false) h5) (newK h5 (.cells #[(.int .i64 0), (.int .i64 0)] 96) (fun b8 h9 => k10 d a f c b g p6 (Addr.mk b8 0 none) (0 : Int) h9))))))))))
theorem E0 (S : Stop) (d : Option Addr) (a f : Nat) (c : Option Addr) (b g : Nat) (t : Int) (h : Heap) (K : KK) : (E Tryz.prog X T S body (fin Tryz.prog Tryz.f8.results.toList K) (args0 0 [(.slice d a f), (.slice c b g), (.int .u8 t)]) h) = J0 (fun d a f c b g j o i h => S (en S [1, 1, 1, 1, 1, 1, 0, 1] (c0 S K)) (f10 d a f c b g j o i) h) d a f c b g t h K := by kernel_rfl
def Jk10 (lp10 : (Option Addr) → Nat → Nat → (Option Addr) → Nat → Nat → (Option Addr) → Addr → Int → Heap → Prop) (d : Option Addr) (a f : Nat) (c : Option Addr) (b g : Nat) (j : Option Addr) (o : Addr) (i : Int) (h : Heap) (_K : KK) : Prop :=
  lp10 d a f c b g j o i h
theorem Ek10 (S : Stop) (d : Option Addr) (a f : Nat) (c : Option Addr) (b g : Nat) (j : Option Addr) (o : Addr) (i : Int) (h : Heap) (K : KK) : (en S [1, 1, 1, 1, 1, 1, 0, 1] (c0 S K) (f10 d a f c b g j o i) h) = Jk10 (fun d a f c b g j o i h => ∃ n, S (ln S [1, 1, 1, 1, 1, 1, 0, 1, 0, 0] (c1 S K) n) (f10 d a f c b g j o i) h) d a f c b g j o i h K := by kernel_rfl
def JL10 (k15 : (Option Addr) → Nat → Nat → (Option Addr) → Nat → Nat → (Option Addr) → Addr → Int → Int → Heap → Prop) (k27 : (Option Addr) → Heap → Prop) (d : Option Addr) (a f : Nat) (c : Option Addr) (b g : Nat) (j : Option Addr) (o : Addr) (i : Int) (h : Heap) (_K : KK) : Prop :=
  (0 ≤ (0 : Int) ∧ (0 : Int) < (Nat.cast 2 : Int) ∧ ldI .i64 (rd h (o.add (Int.toNat (0 : Int) * 1))) (fun n1 => bcase (decide (n1 < (IntKind.wrap .i64 ((Nat.cast a : Int) + (4 : Int))))) (((2 : Int) ≠ 0 ∧ bcase (decide (i < (Nat.cast b : Int))) (ptrK c (fun a2 => (0 ≤ i ∧ i < (Nat.cast b : Int) ∧ ldB (rd h (a2.add (Int.toNat i * 1))) (fun b3 => bcase b3 (k15 d a f c b g j o i (IntKind.wrap .i64 ((1 : Int) - (Int.tmod i (2 : Int)))) h) (k15 d a f c b g j o i (Int.tmod i (2 : Int)) h))))) (k15 d a f c b g j o i (Int.tmod i (2 : Int)) h))) ((0 ≤ (1 : Int) ∧ (1 : Int) < (Nat.cast 2 : Int) ∧ ldI .i64 (rd h (o.add (Int.toNat (1 : Int) * 1))) (fun n4 => bcase (decide (n4 < (IntKind.wrap .i64 ((Nat.cast a : Int) + (4 : Int))))) (((2 : Int) ≠ 0 ∧ bcase (decide (i < (Nat.cast b : Int))) (ptrK c (fun a5 => (0 ≤ i ∧ i < (Nat.cast b : Int) ∧ ldB (rd h (a5.add (Int.toNat i * 1))) (fun b6 => bcase b6 (k15 d a f c b g j o i (IntKind.wrap .i64 ((1 : Int) - (Int.tmod i (2 : Int)))) h) (k15 d a f c b g j o i (Int.tmod i (2 : Int)) h))))) (k15 d a f c b g j o i (Int.tmod i (2 : Int)) h))) (k27 j h))))))
theorem EL10 (S : Stop) (n10 : Nat) (d : Option Addr) (a f : Nat) (c : Option Addr) (b g : Nat) (j : Option Addr) (o : Addr) (i : Int) (h : Heap) (K : KK) : (en S [1, 1, 1, 1, 1, 1, 0, 1, 0, 0] (c2 S n10 K) (f10 d a f c b g j o i) h) = JL10 (fun d a f c b g j o i l h => S (en S [1, 1, 1, 1, 1, 1, 0, 1, 0, 0, 1, 0, 0, 1, 1] (c4 S n10 K)) (f15 d a f c b g j o i l) h) (fun j h => S (en S [1, 1, 1, 1, 1, 1, 1] (fn K)) (f27 j) h) d a f c b g j o i h K := by kernel_rfl
def Jk15 (k19 : (Option Addr) → Nat → Nat → (Option Addr) → Nat → Nat → (Option Addr) → Addr → Int → Int → Int → Heap → Prop) (d : Option Addr) (a f : Nat) (c : Option Addr) (b g : Nat) (j : Option Addr) (o : Addr) (i l : Int) (h : Heap) (_K : KK) : Prop :=
  (0 ≤ l ∧ l < (Nat.cast 2 : Int) ∧ ldI .i64 (rd h (o.add (Int.toNat l * 1))) (fun n1 => bcase (decide (n1 ≥ (IntKind.wrap .i64 ((Nat.cast a : Int) + (4 : Int))))) ((0 ≤ (IntKind.wrap .i64 ((1 : Int) - l)) ∧ (IntKind.wrap .i64 ((1 : Int) - l)) < (Nat.cast 2 : Int) ∧ ldI .i64 (rd h (o.add (Int.toNat (IntKind.wrap .i64 ((1 : Int) - l)) * 1))) (fun n2 => k19 d a f c b g j o i (IntKind.wrap .i64 ((1 : Int) - l)) n2 h))) (k19 d a f c b g j o i l n1 h)))
theorem Ek15 (S : Stop) (n10 : Nat) (d : Option Addr) (a f : Nat) (c : Option Addr) (b g : Nat) (j : Option Addr) (o : Addr) (i l : Int) (h : Heap) (K : KK) : (en S [1, 1, 1, 1, 1, 1, 0, 1, 0, 0, 1, 0, 0, 1, 1] (c4 S n10 K) (f15 d a f c b g j o i l) h) = Jk15 (fun d a f c b g j o i l s h => S (en S [1, 1, 1, 1, 1, 1, 0, 1, 0, 0, 1, 0, 0, 1, 1, 1, 1] (c4 S n10 K)) (f19 d a f c b g j o i l s) h) d a f c b g j o i l h K := by kernel_rfl
def Jk19 (k23 : (Option Addr) → Nat → Nat → (Option Addr) → Nat → Nat → (Option Addr) → Addr → Int → Int → Addr → Heap → Prop) (d : Option Addr) (a f : Nat) (c : Option Addr) (b g : Nat) (j : Option Addr) (o : Addr) (i l s : Int) (h : Heap) (_K : KK) : Prop :=
  ((4 : Int) ≠ 0 ∧ ((4 : Int) ≠ 0 ∧ newK h (.cells #[(.int .i64 0), (.int .i64 0), (.int .i64 0), (.int .i64 0), (.int .i64 0), (.int .i64 0), (.int .u8 0)] 41) (fun b1 h2 => stK h2 ((Addr.mk b1 0 none).add 0) (.int .i64 1) (fun h3 => stK h3 ((Addr.mk b1 0 none).add 1) (.int .i64 0) (fun h4 => stK h4 ((Addr.mk b1 0 none).add 2) (.int .i64 (Int.tmod s (4 : Int))) (fun h5 => stK h5 ((Addr.mk b1 0 none).add 3) (.int .i64 0) (fun h6 => stK h6 ((Addr.mk b1 0 none).add 4) (.int .i64 0) (fun h7 => stK h7 ((Addr.mk b1 0 none).add 5) (.int .i64 0) (fun h8 => stK h8 ((Addr.mk b1 0 none).add 6) (.int .u8 (IntKind.wrap .u8 (Int.tmod s (4 : Int)))) (fun h9 => bcase (decide (s ≥ (4 : Int))) (ptrK d (fun a10 => (0 ≤ (IntKind.wrap .i64 (s - (4 : Int))) ∧ (IntKind.wrap .i64 (s - (4 : Int))) < (Nat.cast a : Int) ∧ ldI .u8 (rd h9 (a10.add (Int.toNat (IntKind.wrap .i64 (s - (4 : Int))) * 1))) (fun n11 => ((3 : Int) ≠ 0 ∧ ((3 : Int) ≠ 0 ∧ ((4 : Int) ≠ 0 ∧ ((12 : Int) ≠ 0 ∧ ((4 : Int) ≠ 0 ∧ ((48 : Int) ≠ 0 ∧ ((4 : Int) ≠ 0 ∧ stK h9 ((Addr.mk b1 0 none).add 0) (.int .i64 3) (fun h12 => stK h12 ((Addr.mk b1 0 none).add 1) (.int .i64 (IntKind.wrap .i64 ((2 : Int) + (IntKind.wrap .i64 (Int.tmod n11 (3 : Int)))))) (fun h13 => stK h13 ((Addr.mk b1 0 none).add 2) (.int .i64 (IntKind.wrap .i64 (Int.tmod (IntKind.wrap .u8 (Int.tdiv n11 (3 : Int))) (4 : Int)))) (fun h14 => stK h14 ((Addr.mk b1 0 none).add 3) (.int .i64 (IntKind.wrap .i64 (Int.tmod (IntKind.wrap .u8 (Int.tdiv n11 (12 : Int))) (4 : Int)))) (fun h15 => stK h15 ((Addr.mk b1 0 none).add 4) (.int .i64 (IntKind.wrap .i64 (Int.tmod (IntKind.wrap .u8 (Int.tdiv n11 (48 : Int))) (4 : Int)))) (fun h16 => stK h16 ((Addr.mk b1 0 none).add 5) (.int .i64 0) (fun h17 => stK h17 ((Addr.mk b1 0 none).add 6) (.int .u8 0) (fun h18 => k23 d a f c b g j o i l (Addr.mk b1 0 none) h18)))))))))))))))))) (k23 d a f c b g j o i l (Addr.mk b1 0 none) h9)))))))))))
theorem Ek19 (S : Stop) (n10 : Nat) (d : Option Addr) (a f : Nat) (c : Option Addr) (b g : Nat) (j : Option Addr) (o : Addr) (i l s : Int) (h : Heap) (K : KK) : (en S [1, 1, 1, 1, 1, 1, 0, 1, 0, 0, 1, 0, 0, 1, 1, 1, 1] (c4 S n10 K) (f19 d a f c b g j o i l s) h) = Jk19 (fun d a f c b g j o i l r h => S (en S [1, 1, 1, 1, 1, 1, 0, 1, 0, 0, 1, 0, 0, 1, 1, 1, 1, 1, 1] (c4 S n10 K)) (f23 d a f c b g j o i l r) h) d a f c b g j o i l s h K := by kernel_rfl
def Jk23 (bk10 : (Option Addr) → Nat → Nat → (Option Addr) → Nat → Nat → (Option Addr) → Addr → Int → Heap → Prop) (d : Option Addr) (a f : Nat) (c : Option Addr) (b g : Nat) (j : Option Addr) (o : Addr) (i l : Int) (r : Addr) (h : Heap) (K : KK) : Prop :=
  ldI .i64 (rd h (r.add 0)) (fun n1 => ldI .i64 (rd h (r.add 1)) (fun n2 => ldI .i64 (rd h (r.add 2)) (fun n3 => ldI .i64 (rd h (r.add 3)) (fun n4 => ldI .i64 (rd h (r.add 4)) (fun n5 => ldI .i64 (rd h (r.add 5)) (fun n6 => ldI .u8 (rd h (r.add 6)) (fun n7 => Cl 53 [(.pointer j), (.int .i64 l), (.agg #[(.int .i64 n1), (.int .i64 n2), (.int .i64 n3), (.int .i64 n4), (.int .i64 n5), (.int .i64 n6), (.int .u8 n7)])] h (fun v8 h9 => (∃ n10 : Int, ∃ n11 : Int, ∃ b12 : Bool, v8 = (.tuple #[(.agg #[(.int .i64 n10), (.int .u64 n11)]), (.bool b12)]) ∧ newK h9 (.cells #[(.int .i64 0), (.int .u64 0)] 76) (fun b13 h14 => stK h14 ((Addr.mk b13 0 none).add 0) (.int .i64 n10) (fun h15 => stK h15 ((Addr.mk b13 0 none).add 1) (.int .u64 n11) (fun h16 => bcase (!b12) (K (.bool false) h16) (ldI .i64 (rd h16 ((Addr.mk b13 0 none).add 0)) (fun n17 => bcase (n17 != (0 : Int)) (K (.bool false) h16) ((0 ≤ l ∧ l < (Nat.cast 2 : Int) ∧ ldI .i64 (rd h16 (o.add (Int.toNat l * 1))) (fun n18 => (0 ≤ l ∧ l < (Nat.cast 2 : Int) ∧ stK h16 ((o.add (Int.toNat l * 1)).add 0) (.int .i64 (IntKind.wrap .i64 (n18 + (1 : Int)))) (fun h19 => bk10 d a f c b g j o (IntKind.wrap .i64 (i + (1 : Int))) h19)))))))))))))))))))
theorem Ek23 (S : Stop) (n10 : Nat) (d : Option Addr) (a f : Nat) (c : Option Addr) (b g : Nat) (j : Option Addr) (o : Addr) (i l : Int) (r : Addr) (h : Heap) (K : KK) : (en S [1, 1, 1, 1, 1, 1, 0, 1, 0, 0, 1, 0, 0, 1, 1, 1, 1, 1, 1] (c4 S n10 K) (f23 d a f c b g j o i l r) h) = Jk23 (fun d a f c b g j o i h => S (ln S [1, 1, 1, 1, 1, 1, 0, 1, 0, 0] (c1 S K) n10) (f10 d a f c b g j o i) h) d a f c b g j o i l r h K := by kernel_rfl
def Jk27 (k28 : (Option Addr) → Int → Heap → Prop) (j : Option Addr) (h : Heap) (_K : KK) : Prop :=
  k28 j (0 : Int) h
theorem Ek27 (S : Stop) (j : Option Addr) (h : Heap) (K : KK) : (en S [1, 1, 1, 1, 1, 1, 1] (fn K) (f27 j) h) = Jk27 (fun j q h => S (en S [1, 1, 1, 1, 1, 1, 1, 0, 1] (c5 S K)) (f28 j q) h) j h K := by kernel_rfl
def Jk28 (lp28 : (Option Addr) → Int → Heap → Prop) (j : Option Addr) (q : Int) (h : Heap) (_K : KK) : Prop :=
  lp28 j q h
theorem Ek28 (S : Stop) (j : Option Addr) (q : Int) (h : Heap) (K : KK) : (en S [1, 1, 1, 1, 1, 1, 1, 0, 1] (c5 S K) (f28 j q) h) = Jk28 (fun j q h => ∃ n, S (ln S [1, 1, 1, 1, 1, 1, 1, 0, 1, 0, 0] (c6 S K) n) (f28 j q) h) j q h K := by kernel_rfl
def JL28 (bk28 : (Option Addr) → Int → Heap → Prop) (j : Option Addr) (q : Int) (h : Heap) (K : KK) : Prop :=
  bcase (decide (q < (4 : Int))) (Cl 28 [(.pointer j), (.int .i64 0), (.int .i64 q)] h (fun v1 h2 => (∃ n3 : Int, ∃ b4 : Bool, v1 = (.tuple #[(.int .u32 n3), (.bool b4)]) ∧ Cl 28 [(.pointer j), (.int .i64 1), (.int .i64 q)] h2 (fun v5 h6 => (∃ n7 : Int, ∃ b8 : Bool, v5 = (.tuple #[(.int .u32 n7), (.bool b8)]) ∧ bcase (!b4) (K (.bool false) h6) (bcase (!b8) (K (.bool false) h6) (bcase (n3 != n7) (K (.bool false) h6) (bk28 j (IntKind.wrap .i64 (q + (1 : Int))) h6)))))))) (K (.bool true) h)
theorem EL28 (S : Stop) (n28 : Nat) (j : Option Addr) (q : Int) (h : Heap) (K : KK) : (en S [1, 1, 1, 1, 1, 1, 1, 0, 1, 0, 0] (c7 S n28 K) (f28 j q) h) = JL28 (fun j q h => S (ln S [1, 1, 1, 1, 1, 1, 1, 0, 1, 0, 0] (c6 S K) n28) (f28 j q) h) j q h K := by kernel_rfl
def wk23 (bk10 : (Option Addr) → Nat → Nat → (Option Addr) → Nat → Nat → (Option Addr) → Addr → Int → Heap → Prop) (d : Option Addr) (a f : Nat) (c : Option Addr) (b g : Nat) (j : Option Addr) (o : Addr) (i l : Int) (r : Addr) (h : Heap) (K : KK) : Prop :=
  Jk23 bk10 d a f c b g j o i l r h K
theorem ek23 (K : KK) (n10 : Nat) (bk10 : (Option Addr) → Nat → Nat → (Option Addr) → Nat → Nat → (Option Addr) → Addr → Int → Heap → Prop) (hb10 : ∀ (d : Option Addr) (a f : Nat) (c : Option Addr) (b g : Nat) (j : Option Addr) (o : Addr) (i : Int) (h : Heap), (ln S0 [1, 1, 1, 1, 1, 1, 0, 1, 0, 0] (c1 S0 K) n10 (f10 d a f c b g j o i) h) = bk10 d a f c b g j o i h) (d : Option Addr) (a f : Nat) (c : Option Addr) (b g : Nat) (j : Option Addr) (o : Addr) (i l : Int) (r : Addr) (h : Heap) : (en S0 [1, 1, 1, 1, 1, 1, 0, 1, 0, 0, 1, 0, 0, 1, 1, 1, 1, 1, 1] (c4 S0 n10 K) (f23 d a f c b g j o i l r) h) = wk23 bk10 d a f c b g j o i l r h K := (Ek23 S0 n10 d a f c b g j o i l r h K).trans (cg1 (fun q0 => Jk23 q0 d a f c b g j o i l r h K) (by funext d a f c b g j o i h; exact hb10 d a f c b g j o i h))
def wk19 (bk10 : (Option Addr) → Nat → Nat → (Option Addr) → Nat → Nat → (Option Addr) → Addr → Int → Heap → Prop) (d : Option Addr) (a f : Nat) (c : Option Addr) (b g : Nat) (j : Option Addr) (o : Addr) (i l s : Int) (h : Heap) (K : KK) : Prop :=
  Jk19 (fun d a f c b g j o i l r h => wk23 bk10 d a f c b g j o i l r h K) d a f c b g j o i l s h K
theorem ek19 (K : KK) (n10 : Nat) (bk10 : (Option Addr) → Nat → Nat → (Option Addr) → Nat → Nat → (Option Addr) → Addr → Int → Heap → Prop) (hb10 : ∀ (d : Option Addr) (a f : Nat) (c : Option Addr) (b g : Nat) (j : Option Addr) (o : Addr) (i : Int) (h : Heap), (ln S0 [1, 1, 1, 1, 1, 1, 0, 1, 0, 0] (c1 S0 K) n10 (f10 d a f c b g j o i) h) = bk10 d a f c b g j o i h) (d : Option Addr) (a f : Nat) (c : Option Addr) (b g : Nat) (j : Option Addr) (o : Addr) (i l s : Int) (h : Heap) : (en S0 [1, 1, 1, 1, 1, 1, 0, 1, 0, 0, 1, 0, 0, 1, 1, 1, 1] (c4 S0 n10 K) (f19 d a f c b g j o i l s) h) = wk19 bk10 d a f c b g j o i l s h K := (Ek19 S0 n10 d a f c b g j o i l s h K).trans (cg1 (fun q0 => Jk19 q0 d a f c b g j o i l s h K) (by funext d a f c b g j o i l r h; exact ek23 K n10 bk10 hb10 d a f c b g j o i l r h))
def wk15 (bk10 : (Option Addr) → Nat → Nat → (Option Addr) → Nat → Nat → (Option Addr) → Addr → Int → Heap → Prop) (d : Option Addr) (a f : Nat) (c : Option Addr) (b g : Nat) (j : Option Addr) (o : Addr) (i l : Int) (h : Heap) (K : KK) : Prop :=
  Jk15 (fun d a f c b g j o i l s h => wk19 bk10 d a f c b g j o i l s h K) d a f c b g j o i l h K
theorem ek15 (K : KK) (n10 : Nat) (bk10 : (Option Addr) → Nat → Nat → (Option Addr) → Nat → Nat → (Option Addr) → Addr → Int → Heap → Prop) (hb10 : ∀ (d : Option Addr) (a f : Nat) (c : Option Addr) (b g : Nat) (j : Option Addr) (o : Addr) (i : Int) (h : Heap), (ln S0 [1, 1, 1, 1, 1, 1, 0, 1, 0, 0] (c1 S0 K) n10 (f10 d a f c b g j o i) h) = bk10 d a f c b g j o i h) (d : Option Addr) (a f : Nat) (c : Option Addr) (b g : Nat) (j : Option Addr) (o : Addr) (i l : Int) (h : Heap) : (en S0 [1, 1, 1, 1, 1, 1, 0, 1, 0, 0, 1, 0, 0, 1, 1] (c4 S0 n10 K) (f15 d a f c b g j o i l) h) = wk15 bk10 d a f c b g j o i l h K := (Ek15 S0 n10 d a f c b g j o i l h K).trans (cg1 (fun q0 => Jk15 q0 d a f c b g j o i l h K) (by funext d a f c b g j o i l s h; exact ek19 K n10 bk10 hb10 d a f c b g j o i l s h))
def wL28 : Nat → (Option Addr) → Int → Heap → KK → Prop
  | 0, _, _, _, _ => False
  | n + 1, j, q, h, K => JL28 (fun j q h => wL28 n j q h K) j q h K
theorem eL28 (K : KK) : ∀ (n : Nat) (j : Option Addr) (q : Int) (h : Heap), (ln S0 [1, 1, 1, 1, 1, 1, 1, 0, 1, 0, 0] (c6 S0 K) n (f28 j q) h) = wL28 n j q h K
  | 0, _, _, _ => rfl
  | n + 1, j, q, h => (EL28 S0 n j q h K).trans (cg1 (fun q0 => JL28 q0 j q h K) (by funext j q h; exact (fun j q h => eL28 K n j q h) j q h))
def wk28 (j : Option Addr) (q : Int) (h : Heap) (K : KK) : Prop :=
  Jk28 (fun j q h => ∃ m, wL28 m j q h K) j q h K
theorem ek28 (K : KK) (j : Option Addr) (q : Int) (h : Heap) : (en S0 [1, 1, 1, 1, 1, 1, 1, 0, 1] (c5 S0 K) (f28 j q) h) = wk28 j q h K := (Ek28 S0 j q h K).trans (cg1 (fun q0 => Jk28 q0 j q h K) (by funext j q h; exact ex_congr fun m => eL28 K m j q h))
def wk27 (j : Option Addr) (h : Heap) (K : KK) : Prop :=
  Jk27 (fun j q h => wk28 j q h K) j h K
theorem ek27 (K : KK) (j : Option Addr) (h : Heap) : (en S0 [1, 1, 1, 1, 1, 1, 1] (fn K) (f27 j) h) = wk27 j h K := (Ek27 S0 j h K).trans (cg1 (fun q0 => Jk27 q0 j h K) (by funext j q h; exact ek28 K j q h))
def wL10 : Nat → (Option Addr) → Nat → Nat → (Option Addr) → Nat → Nat → (Option Addr) → Addr → Int → Heap → KK → Prop
  | 0, _, _, _, _, _, _, _, _, _, _, _ => False
  | n + 1, d, a, f, c, b, g, j, o, i, h, K => JL10 (fun d a f c b g j o i l h => wk15 (fun d a f c b g j o i h => wL10 n d a f c b g j o i h K) d a f c b g j o i l h K) (fun j h => wk27 j h K) d a f c b g j o i h K
theorem eL10 (K : KK) : ∀ (n : Nat) (d : Option Addr) (a f : Nat) (c : Option Addr) (b g : Nat) (j : Option Addr) (o : Addr) (i : Int) (h : Heap), (ln S0 [1, 1, 1, 1, 1, 1, 0, 1, 0, 0] (c1 S0 K) n (f10 d a f c b g j o i) h) = wL10 n d a f c b g j o i h K
  | 0, _, _, _, _, _, _, _, _, _, _ => rfl
  | n + 1, d, a, f, c, b, g, j, o, i, h => (EL10 S0 n d a f c b g j o i h K).trans (cg2 (fun q0 q1 => JL10 q0 q1 d a f c b g j o i h K) (by funext d a f c b g j o i l h; exact ek15 K n (fun d a f c b g j o i h => wL10 n d a f c b g j o i h K) (fun d a f c b g j o i h => eL10 K n d a f c b g j o i h) d a f c b g j o i l h) (by funext j h; exact ek27 K j h))
def wk10 (d : Option Addr) (a f : Nat) (c : Option Addr) (b g : Nat) (j : Option Addr) (o : Addr) (i : Int) (h : Heap) (K : KK) : Prop :=
  Jk10 (fun d a f c b g j o i h => ∃ m, wL10 m d a f c b g j o i h K) d a f c b g j o i h K
theorem ek10 (K : KK) (d : Option Addr) (a f : Nat) (c : Option Addr) (b g : Nat) (j : Option Addr) (o : Addr) (i : Int) (h : Heap) : (en S0 [1, 1, 1, 1, 1, 1, 0, 1] (c0 S0 K) (f10 d a f c b g j o i) h) = wk10 d a f c b g j o i h K := (Ek10 S0 d a f c b g j o i h K).trans (cg1 (fun q0 => Jk10 q0 d a f c b g j o i h K) (by funext d a f c b g j o i h; exact ex_congr fun m => eL10 K m d a f c b g j o i h))
def w (d : Option Addr) (a f : Nat) (c : Option Addr) (b g : Nat) (t : Int) (h : Heap) (K : KK) : Prop :=
  J0 (fun d a f c b g j o i h => wk10 d a f c b g j o i h K) d a f c b g t h K
theorem e0 (K : KK) (d : Option Addr) (a f : Nat) (c : Option Addr) (b g : Nat) (t : Int) (h : Heap) : (E Tryz.prog X T S0 body (fin Tryz.prog Tryz.f8.results.toList K) (args0 0 [(.slice d a f), (.slice c b g), (.int .u8 t)]) h) = w d a f c b g t h K := (E0 S0 d a f c b g t h K).trans (cg1 (fun q0 => J0 q0 d a f c b g t h K) (by funext d a f c b g j o i h; exact ek10 K d a f c b g j o i h))
theorem hb : Tryz.f8.body = some body := by kernel_rfl
theorem ok : okCode T Tryz.f8.ntmps body = true := by kernel_rfl
theorem spec (d : Option Addr) (a f : Nat) (c : Option Addr) (b g : Nat) (t : Int) (h : Heap) (K : KK) (H : w d a f c b g t h K) : Cl 8 [(.slice d a f), (.slice c b g), (.int .u8 t)] h K :=
  calls_of_E (T := T) Xok mix Tryz.func8 hb ok rfl (by rw [e0]; exact H)
end F8
end
section
open Go Go.ChangeShapes Go.WideShapes Go.ChangeAt Go.RowKit
def Bls (h : Heap) (p : Option Addr) (l : Nat) (s : Nat → Bool) : Prop := ∀ i, i < l → ∃ a, p = some a ∧ rd h (a.add i) = some (.bool (s i))
theorem Bls.only {S : List Nat} {h h' : Heap} {p : Option Addr} {l : Nat} {s : Nat → Bool} (H : Bls h p l s) (O : Only S h h') (hS : ∀ b ∈ S, h.size ≤ b) : Bls h' p l s := by
  intro i hi
  obtain ⟨a, e, hr⟩ := H i hi
  exact ⟨a, e, rd_only hr O hS⟩
theorem open_sb {H : Type} {enc : TypeId × Value → H} {P : Program} {W : World} {r : Reach} {b0 base : Nat} {sp : Nat → Bool} {held : Bool} {t e : TypeId} {v : Value} {d : DataW H} {ps : List MemPlace}
    (ht : P.underlying t = some (.slice e)) (he : P.underlying e = some .bool) (hc : P.cellsOf e = 1) (hval : Value.okWide P W r b0 t v)
    (hd : DataW.Trod enc P W base sp held t v d ps) (hsp : ∀ b, sp b = true) :
    ∃ (p : Option Addr) (c l : Nat) (s : Nat → Bool), v = .slice p l c ∧ Bls W.heap p l s ∧ (l : Int) ≤ maxLen := by
  obtain ⟨a, len, cap, rfl⟩ := okWide_slice ht hval
  obtain ⟨fuel, hf⟩ := hd
  rcases Go.Deep.open_slice ht hf with ⟨hcs, -⟩ | ⟨a', len', cap', m, n, D, Pl, hcs, -, hle, hmx, hm, -, hi⟩
  · simp only [Value.cells, List.cons.injEq, and_true] at hcs
    injection hcs with e1 e2 e3
    subst e1 e2 e3
    exact ⟨none, 0, 0, fun _ => false, rfl, fun i hi => absurd hi (by omega), by simp [maxLen]⟩
  · simp only [Value.cells, List.cons.injEq, and_true] at hcs
    injection hcs with e1 e2 e3
    subst e1 e2 e3
    rw [if_pos (hsp _)] at hm
    subst hm
    rw [hc] at hi
    have key : ∀ i, i < len → ∃ b, rd W.heap (a'.add i) = some (.bool b) := by
      intro i hl
      obtain ⟨cs', h1, h2⟩ := hi i (by omega)
      obtain ⟨_, hcl, hat⟩ := World.cells?_some h1
      obtain ⟨z, h5, -⟩ := DataW.trod_bool he h2
      have h6 : rd W.heap (a'.add (i * 1 + 0)) = cs'[0]? := by rw [← add_add]; exact hat 0 (by omega)
      rw [h5, Nat.mul_one, Nat.add_zero] at h6
      exact ⟨z, h6⟩
    obtain ⟨f, hf⟩ := pick key
    exact ⟨some a', _, len, f, rfl, fun i hl => ⟨a', rfl, hf i hl⟩, by omega⟩
end
section
abbrev Rgs := Nat → Option (Nat → Bool)
def rF (R : Rgs) (c : Cal) (i y : Nat) : Bool := match (rds c)[i]? with | some r => (match R r.toNat with | some f => f y | none => false) | none => false
def putR (R : Rgs) (d : Nat) (g : Nat → Bool) : Rgs := fun r => if r = d then some g else R r
def opR2 (R : Rgs) (o : Nat) : Rgs := putR R (o / 3 % 4) fun y => opF (2 + o % 3) (rF R (opCal o) 0 y) (rF R (opCal o) 1 y) (rF R (opCal o) 2 y)
def runR (xs : List Nat) : Nat → Rgs
  | 0 => fun _ => none
  | k + 1 => if k < 4 then putR (runR xs k) k fun y => y.testBit k else opR2 (runR xs k) (xs.getD (k - 4) 0)
def Fn2 (A B : Rgs) : Fns := fun k r => if k = 0 then A r else if k = 1 then B r else none
theorem fn2_upd0 {A B : Rgs} {d : Nat} {g : Nat → Bool} : updF (Fn2 A B) 0 d (some g) = Fn2 (putR A d g) B := by
  funext k r
  unfold updF Fn2 putR
  by_cases q : k = 0
  · subst q
    by_cases z : r = d
    · simp [z]
    · simp [z]
  · simp [q]
theorem fn2_upd1 {A B : Rgs} {d : Nat} {g : Nat → Bool} : updF (Fn2 A B) 1 d (some g) = Fn2 A (putR B d g) := by
  funext k r
  unfold updF Fn2 putR
  by_cases q : k = 1
  · subst q
    by_cases z : r = d
    · simp [z]
    · simp [z]
  · by_cases w : k = 0
    · subst w; simp
    · simp [q, w]
theorem gF2_0 {A B : Rgs} {c : Cal} {i : Nat} : gF (Fn2 A B) 0 c i = rF A c i := by
  funext y
  unfold gF rF Fn2
  rfl
theorem gF2_1 {A B : Rgs} {c : Cal} {i : Nat} : gF (Fn2 A B) 1 c i = rF B c i := by
  funext y
  unfold gF rF Fn2
  rfl
theorem run_has {xs : List Nat} : ∀ (k r : Nat), r < 4 → r < k → ∃ f, runR xs k r = some f := by
  intro k
  induction k with
  | zero => intro r _ h; omega
  | succ k ih =>
    intro r h4 hk
    unfold runR
    split
    · unfold putR
      by_cases q : r = k
      · rw [if_pos q]; exact ⟨_, rfl⟩
      · rw [if_neg q]; exact ih r h4 (by omega)
    · rename_i h
      unfold opR2 putR
      split
      · exact ⟨_, rfl⟩
      · exact ih r h4 (by omega)
theorem has4_0 {xs : List Nat} {k : Nat} {B : Rgs} (h : 4 ≤ k) : has4 (Fn2 (runR xs k) B) 0 := fun r hr => run_has k r hr (by omega)
theorem has4_1 {xs : List Nat} {k : Nat} {A : Rgs} (h : 4 ≤ k) : has4 (Fn2 A (runR xs k)) 1 := fun r hr => run_has k r hr (by omega)
structure Far (h0 h : Heap) (e b : Nat) (xs : List Nat) (a0 a1 : Nat) (G : EG) : Prop where
  Q : Qt h e G (Fn2 (runR xs a0) (runR xs a1)) (a0 + a1)
  A : At h b [.int .i64 (a0 : Int), .int .i64 (a1 : Int)]
  nb : b ∉ ebl e G
  gb : h0.size ≤ b
  ge : ∀ x ∈ ebl e G, h0.size ≤ x
  O : Only [] h0 h
  n : G.n = 8
  room : G.room = 16384
section
variable {h0 h h' : Heap} {e b a0 a1 : Nat} {G G' : EG} {xs : List Nat} {bp tp : Option Addr} {bc tc tl : Nat} {tb : Nat → Bool}
theorem far_now {s k : Nat} (hs : s = 0 ∨ s = 1) (ek : k = if s = 0 then a0 else a1) (F : Far h0 h e b xs a0 a1 G) (hk : k < xs.length + 4) (hl : xs.length ≤ 12) (h1 : a0 ≤ xs.length + 4) (h2 : a1 ≤ xs.length + 4) {c : Cal} (hc : c = if k < 4 then varCal k else opCal (xs.getD (k - 4) 0)) {K : Value → Heap → Prop}
    (hK : ∀ h' G' a0' a1', (if s = 0 then a0' = a0 + 1 ∧ a1' = a1 else a0' = a0 ∧ a1' = a1 + 1) → Qt h' e G' (Fn2 (runR xs a0') (runR xs a1')) (a0' + a1') → Eside e G h G' h' → (G'.n = G.n ∧ G'.fo = G.fo ∧ G'.room = G.room ∧ G'.gg = G.gg) → K (.tuple #[.agg #[.int .i64 0, .int .u64 0], .bool true]) h') :
    CallsH Tryz.prog 53 [ptrV e, .int .i64 (s : Int), calV c] h K := by
  have r := F.room
  have n8 := F.n
  by_cases k4 : k < 4
  · rw [if_pos k4] at hc
    subst hc
    rcases hs with z | z <;> subst z
    · rw [if_pos rfl] at ek
      refine now_v F.Q (by omega) k4 (by omega) (by omega) (by omega) fun h' G' Q' S' kk => hK h' G' (a0 + 1) a1 (by rw [if_pos rfl]; exact ⟨rfl, rfl⟩) ?_ S' kk
      unfold varFns at Q'
      rw [fn2_upd0] at Q'
      have : runR xs (a0 + 1) = putR (runR xs a0) k fun y => y.testBit k := by rw [ek]; show (if a0 < 4 then _ else _) = _; rw [if_pos (by omega)]
      rw [this, show a0 + 1 + a1 = a0 + a1 + 1 by omega]
      exact Q'
    · rw [if_neg (by omega)] at ek
      refine now_v F.Q (by omega) k4 (by omega) (by omega) (by omega) fun h' G' Q' S' kk => hK h' G' a0 (a1 + 1) (by rw [if_neg (by omega)]; exact ⟨rfl, rfl⟩) ?_ S' kk
      unfold varFns at Q'
      rw [fn2_upd1] at Q'
      have : runR xs (a1 + 1) = putR (runR xs a1) k fun y => y.testBit k := by rw [ek]; show (if a1 < 4 then _ else _) = _; rw [if_pos (by omega)]
      rw [this, show a0 + (a1 + 1) = a0 + a1 + 1 by omega]
      exact Q'
  · rw [if_neg k4] at hc
    subst hc
    rcases hs with z | z <;> subst z
    · rw [if_pos rfl] at ek
      refine now_op F.Q (by omega) (has4_0 (by omega)) (by omega) (by omega) fun h' G' Q' S' kk => hK h' G' (a0 + 1) a1 (by rw [if_pos rfl]; exact ⟨rfl, rfl⟩) ?_ S' kk
      unfold opFns at Q'
      rw [fn2_upd0, gF2_0, gF2_0, gF2_0] at Q'
      have : runR xs (a0 + 1) = opR2 (runR xs a0) (xs.getD (k - 4) 0) := by rw [ek]; show (if a0 < 4 then _ else _) = _; rw [if_neg (by omega)]
      rw [this, show a0 + 1 + a1 = a0 + a1 + 1 by omega]
      exact Q'
    · rw [if_neg (by omega)] at ek
      refine now_op F.Q (by omega) (has4_1 (by omega)) (by omega) (by omega) fun h' G' Q' S' kk => hK h' G' a0 (a1 + 1) (by rw [if_neg (by omega)]; exact ⟨rfl, rfl⟩) ?_ S' kk
      unfold opFns at Q'
      rw [fn2_upd1, gF2_1, gF2_1, gF2_1] at Q'
      have : runR xs (a1 + 1) = opR2 (runR xs a1) (xs.getD (k - 4) 0) := by rw [ek]; show (if a1 < 4 then _ else _) = _; rw [if_neg (by omega)]
      rw [this, show a0 + (a1 + 1) = a0 + a1 + 1 by omega]
      exact Q'
theorem far_call {s k i : Nat} {xi : Int} {bk : (Option Addr) → Nat → Nat → (Option Addr) → Nat → Nat → (Option Addr) → Addr → Int → Heap → Prop} (hs : s = 0 ∨ s = 1) (ek : k = if s = 0 then a0 else a1) (F : Far h0 h e b xs a0 a1 G) (hk : k < xs.length + 4) (hl : xs.length ≤ 12) (h1 : a0 ≤ xs.length + 4) (hh2 : a1 ≤ xs.length + 4)
    (hx : ∀ o ∈ xs, o < 256) (hI : ∀ hh, Only [] h0 hh → Ints hh .u8 bp (xs.map fun (o : Nat) => (o : Int))) (exi : xi = (i : Int)) (hi : i < 100)
    (hK : ∀ h' G' a0' a1', (if s = 0 then a0' = a0 + 1 ∧ a1' = a1 else a0' = a0 ∧ a1' = a1 + 1) → Far h0 h' e b xs a0' a1' G' → bk bp xs.length bc tp tl tc (some ⟨e, 0, none⟩) ⟨b, 0, none⟩ ((i + 1 : Nat) : Int) h') :
    F8.wk19 bk bp xs.length bc tp tl tc (some ⟨e, 0, none⟩) ⟨b, 0, none⟩ xi (s : Int) (k : Int) h (Lawful h0) := by
  have z0 := F.O.size
  have bl := F.A.lt
  have rest : ∀ {h2 : Heap} {q : Nat} {c : Cal}, c = (if k < 4 then varCal k else opCal (xs.getD (k - 4) 0)) → At h2 q [.int .i64 c.kind, .int .i64 c.op, .int .i64 c.dst, .int .i64 c.a, .int .i64 c.b, .int .i64 c.c, .int .u8 (c.mask : Int)] → Only [] h h2 →
      F8.wk23 bk bp xs.length bc tp tl tc (some ⟨e, 0, none⟩) ⟨b, 0, none⟩ xi (s : Int) ⟨q, 0, none⟩ h2 (Lawful h0) := fun {h2 q c} hc A2 O2 => by
    unfold F8.wk23 F8.Jk23
    simp only [add_mk, Nat.zero_add]
    have r : ∀ j, rd h2 ⟨q, j, none⟩ = ([.int .i64 c.kind, .int .i64 c.op, .int .i64 c.dst, .int .i64 c.a, .int .i64 c.b, .int .i64 c.c, .int .u8 (c.mask : Int)] : List Value)[j]? := fun j => At.rd A2 j
    refine ldI_of (n := c.kind) (by rw [r]; rfl) (ldI_of (n := c.op) (by rw [r]; rfl) (ldI_of (n := c.dst) (by rw [r]; rfl) (ldI_of (n := c.a) (by rw [r]; rfl) (ldI_of (n := c.b) (by rw [r]; rfl) (ldI_of (n := c.c) (by rw [r]; rfl) (ldI_of (n := (c.mask : Int)) (by rw [r]; rfl) ?_))))))
    have F2 : Far h0 h2 e b xs a0 a1 G := ⟨F.Q.only0 O2, F.A.only O2 (by simp), F.nb, F.gb, F.ge, F.O.trans O2 (by simp), F.n, F.room⟩
    refine far_now hs ek F2 hk hl h1 hh2 hc fun h3 G3 a0' a1' ha Q3 S3 k3 => ⟨_, _, _, rfl, ?_⟩
    refine newK_at fun h4 A4 O4 z4 => stK_at (i := 0) A4 (by simp) rfl fun h5 A5 O5 z5 => stK_at (i := 1) A5 (by simp) rfl fun h6 A6 O6 z6 => ?_
    have O36 : Only [] h3 h6 := (O4.trans O5 (by intro x hx hl; simp at hx; omega)).trans O6 (by intro x hx hl; simp at hx; omega)
    rw [Bool.not_true, bcase_false]
    refine ldI_of (n := 0) (by rw [At.rd A6]; rfl) ?_
    rw [show ((0 : Int) != 0) = false from rfl, bcase_false]
    obtain ⟨B3, nb3⟩ := S3.at F2.A F2.nb
    have B6 := B3.only O36 (by simp)
    have Q6 := Q3.only0 O36
    have s2 : (s : Int) < 2 := by omega
    have st : Int.toNat (s : Int) * 1 + 0 = s := by omega
    have st1 : Int.toNat (s : Int) * 1 = s := by omega
    rw [st1]
    refine ⟨by omega, by omega, ldI_of (n := (k : Int)) (by
      rw [At.rd B6]
      rcases hs with z | z <;> subst z
      · rw [ek]; rfl
      · rw [ek]; rfl) ⟨by omega, by omega, ?_⟩⟩
    refine stK_at B6 (by simp; omega) rfl fun h7 B7 O7 z7 => ?_
    rw [show IntKind.wrap .i64 ((k : Int) + 1) = ((k + 1 : Nat) : Int) by rw [wrap_i64 (by omega) (by omega)]; omega] at B7
    have nb6 : b ∉ ebl e G3 := nb3
    have W7 : EWd h7 e G3 := by
      have W6 := Q6.W
      exact ⟨W6.W.only O7 (fun y hy hm => by simp at hy; subst hy; exact nb6 (mem_ebl.2 (.inr (.inl hm)))) (fun y hy hm => by simp at hy; subst hy; exact nb6 (mem_ebl.2 (.inr (.inr (.inr hm))))), W6.R.only O7 (fun y hy hm => by simp at hy; subst hy; exact nb6 (mem_ebl.2 (.inr (.inr (.inl hm))))), W6.I.only O7 (fun hm => by simp at hm; exact nb6 (mem_ebl.2 (.inl hm.symm))), W6.C, W6.de, W6.dB, W6.rg, W6.r0, W6.mq, W6.po⟩
    have Q7 : Qt h7 e G3 (Fn2 (runR xs a0') (runR xs a1')) (a0' + a1') := ⟨W7, Q6.md, Q6.jobs, Q6.pend, Q6.last, Q6.M, Q6.ans, Q6.cnt, Q6.t⟩
    rw [show IntKind.wrap .i64 (xi + 1) = ((i + 1 : Nat) : Int) by rw [exi, wrap_i64 (by omega) (by omega)]; omega]
    refine hK h7 G3 a0' a1' ha ⟨Q7, ?_, nb6, F.gb, S3.ge F2.O.size F2.ge, ?_, k3.1.trans F.n, k3.2.2.1.trans F.room⟩
    · rcases hs with z | z <;> subst z
      · rw [if_pos rfl] at ha ek
        rw [ha.1, ha.2, ← ek]
        exact B7
      · rw [if_neg (by omega)] at ha ek
        rw [ha.1, ha.2, ← ek]
        exact B7
    · exact ((S3.only F2.O F2.ge).trans O36 (by simp)).trans O7 fun x hx hl => by simp at hx; have := F.gb; omega
  unfold F8.wk19 F8.Jk19
  refine ⟨by omega, by omega, newK_at fun h2 A2 O2 z2 => ?_⟩
  simp only [add_mk, Nat.zero_add]
  have kt : Int.tmod (k : Int) 4 = ((k % 4 : Nat) : Int) := tm (b := 4) (by omega)
  rw [kt, wrap8 (x := k % 4) (by omega)]
  refine stK_at A2 (by simp) rfl fun h3 A3 O3 z3 => stK_at A3 (by simp) rfl fun h4 A4 O4 z4 => stK_at A4 (by simp) rfl fun h5 A5 O5 z5 => stK_at A5 (by simp) rfl fun h6 A6 O6 z6 => stK_at A6 (by simp) rfl fun h7 A7 O7 z7 => stK_at A7 (by simp) rfl fun h8 A8 O8 z8 => stK_at A8 (by simp) rfl fun h9 A9 O9 z9 => ?_
  have O29 : Only [h.size] h2 h9 := (((((O3.trans O4 fun b hb _ => hb).trans O5 fun b hb _ => hb).trans O6 fun b hb _ => hb).trans O7 fun b hb _ => hb).trans O8 fun b hb _ => hb).trans O9 fun b hb _ => hb
  have O09 : Only [] h h9 := O2.trans O29 (by intro x hx hl; simp at hx; omega)
  refine bcase_of (fun g => ?_) fun g => ?_
  · have g : (4 : Int) ≤ (k : Int) := of_decide_eq_true g
    have w1 : IntKind.wrap .i64 ((k : Int) - 4) = ((k - 4 : Nat) : Int) := by rw [wrap_i64 (by omega) (by omega)]; omega
    have O0 : Only [] h0 h9 := F.O.trans O09 (by simp)
    obtain ⟨a, ea, ra⟩ := hI h9 O0 (k - 4) (by simp; omega)
    obtain ⟨o, eo⟩ : ∃ o, o = xs.getD (k - 4) 0 := ⟨_, rfl⟩
    have ro : (xs.map fun (o : Nat) => (o : Int)).getD (k - 4) 0 = (o : Int) := by
      rw [eo, List.getD_eq_getElem?_getD, List.getD_eq_getElem?_getD, List.getElem?_map, List.getElem?_eq_getElem (by omega : k - 4 < xs.length)]
      rfl
    have o8 : o < 256 := by
      apply hx
      rw [eo, List.getD_eq_getElem?_getD, List.getElem?_eq_getElem (by omega : k - 4 < xs.length)]
      exact List.getElem_mem _
    rw [ro] at ra
    rw [w1]
    have ocv := op_cal o8
    unfold calV at ocv
    injection ocv with ocv
    have ocl := congrArg Array.toList ocv
    simp only [List.cons.injEq, Value.int.injEq, true_and, and_true] at ocl
    obtain ⟨c0, c1, c2, c3, c4, c5, c6⟩ := ocl
    rw [ea]
    refine ⟨by omega, by omega, ldI_of (n := (o : Int)) (by rw [show Int.toNat ((k - 4 : Nat) : Int) * 1 = k - 4 by omega]; exact ra) ⟨by omega, by omega, by omega, by omega, by omega, by omega, by omega, ?_⟩⟩
    rw [← c1, ← c2, ← c3, ← c4]
    refine stK_at A9 (by simp) rfl fun h10 A10 O10 _ => stK_at A10 (by simp) rfl fun h11 A11 O11 _ => stK_at A11 (by simp) rfl fun h12 A12 O12 _ => stK_at A12 (by simp) rfl fun h13 A13 O13 _ => stK_at A13 (by simp) rfl fun h14 A14 O14 _ => stK_at A14 (by simp) rfl fun h15 A15 O15 _ => stK_at A15 (by simp) rfl fun h16 A16 O16 _ => ?_
    have O916 : Only [h.size] h9 h16 := (((((O10.trans O11 fun b hb _ => hb).trans O12 fun b hb _ => hb).trans O13 fun b hb _ => hb).trans O14 fun b hb _ => hb).trans O15 fun b hb _ => hb).trans O16 fun b hb _ => hb
    rw [← ea]
    exact rest (c := opCal o) (by rw [if_neg (by omega), eo]) A16 (O09.trans O916 (by intro x hx hl; simp at hx; omega))
  · have g : ¬ (4 : Int) ≤ (k : Int) := of_decide_eq_false g
    refine rest (c := varCal k) (by rw [if_pos (by omega)]) ?_ O09
    rw [show k % 4 = k by omega] at A9
    exact A9
theorem one_sub {s : Nat} (hs : s = 0 ∨ s = 1) : IntKind.wrap .i64 (1 - (s : Int)) = ((1 - s : Nat) : Int) := by
  rcases hs with z | z <;> subst z <;> rfl
theorem Far.at0 (F : Far h0 h e b xs a0 a1 G) : rd h ⟨b, 0, none⟩ = some (.int .i64 (a0 : Int)) := At.rd F.A 0
theorem Far.at1 (F : Far h0 h e b xs a0 a1 G) : rd h ⟨b, 1, none⟩ = some (.int .i64 (a1 : Int)) := At.rd F.A 1
theorem Far.ats (F : Far h0 h e b xs a0 a1 G) {s : Nat} (hs : s = 0 ∨ s = 1) : rd h ⟨b, s, none⟩ = some (.int .i64 ((if s = 0 then a0 else a1 : Nat) : Int)) := by
  rcases hs with z | z <;> subst z
  · exact F.at0
  · exact F.at1
theorem far15 {s i : Nat} {xi : Int} {bk : (Option Addr) → Nat → Nat → (Option Addr) → Nat → Nat → (Option Addr) → Addr → Int → Heap → Prop} (hs : s = 0 ∨ s = 1) (F : Far h0 h e b xs a0 a1 G) (hl : xs.length ≤ 12) (h1 : a0 ≤ xs.length + 4) (hh2 : a1 ≤ xs.length + 4) (go : a0 + a1 < 2 * (xs.length + 4))
    (hx : ∀ o ∈ xs, o < 256) (hI : ∀ hh, Only [] h0 hh → Ints hh .u8 bp (xs.map fun (o : Nat) => (o : Int))) (exi : xi = (i : Int)) (hi : i < 100)
    (hK : ∀ h' G' a0' a1', a0' + a1' = a0 + a1 + 1 → a0' ≤ xs.length + 4 → a1' ≤ xs.length + 4 → Far h0 h' e b xs a0' a1' G' → bk bp xs.length bc tp tl tc (some ⟨e, 0, none⟩) ⟨b, 0, none⟩ ((i + 1 : Nat) : Int) h') :
    F8.wk15 bk bp xs.length bc tp tl tc (some ⟨e, 0, none⟩) ⟨b, 0, none⟩ xi (s : Int) h (Lawful h0) := by
  unfold F8.wk15 F8.Jk15
  have w4 : IntKind.wrap .i64 ((Nat.cast xs.length : Int) + 4) = ((xs.length + 4 : Nat) : Int) := by rw [wrap_i64 (by omega) (by omega)]; omega
  have st : Int.toNat (s : Int) * 1 = s := by omega
  rw [w4, one_sub hs]
  simp only [add_mk, Nat.zero_add, st]
  have st2 : Int.toNat ((1 - s : Nat) : Int) * 1 = 1 - s := by omega
  rw [st2]
  refine ⟨by omega, by omega, ldI_of (F.ats hs) (bcase_of (fun g => ?_) fun g => ?_)⟩
  · have g : ((xs.length + 4 : Nat) : Int) ≤ ((if s = 0 then a0 else a1 : Nat) : Int) := of_decide_eq_true g
    have hs' : 1 - s = 0 ∨ 1 - s = 1 := by omega
    refine ⟨by omega, by omega, ldI_of (F.ats hs') ?_⟩
    have lt : (if 1 - s = 0 then a0 else a1) < xs.length + 4 := by
      rcases hs with z | z <;> subst z <;> simp at g ⊢ <;> omega
    refine far_call hs' rfl F lt hl h1 hh2 hx hI exi hi fun h' G' a0' a1' ha F' => hK h' G' a0' a1' ?_ ?_ ?_ F'
    · rcases hs' with z | z <;> rw [z] at ha <;> simp at ha <;> omega
    · rcases hs' with z | z <;> rw [z] at ha lt <;> simp at ha lt <;> omega
    · rcases hs' with z | z <;> rw [z] at ha lt <;> simp at ha lt <;> omega
  · have g : ¬ ((xs.length + 4 : Nat) : Int) ≤ ((if s = 0 then a0 else a1 : Nat) : Int) := of_decide_eq_false g
    have lt : (if s = 0 then a0 else a1) < xs.length + 4 := by omega
    refine far_call hs rfl F lt hl h1 hh2 hx hI exi hi fun h' G' a0' a1' ha F' => hK h' G' a0' a1' ?_ ?_ ?_ F'
    · rcases hs with z | z <;> subst z <;> simp at ha <;> omega
    · rcases hs with z | z <;> subst z <;> simp at ha lt <;> omega
    · rcases hs with z | z <;> subst z <;> simp at ha lt <;> omega
theorem pickb {tp : Option Addr} {tl i : Nat} {tb : Nat → Bool} {hh : Heap} {xi : Int} {W : Int → Prop} (hB : Bls hh tp tl tb) (exi : xi = (i : Int)) (n1 : W ((i % 2 : Nat) : Int)) (n2 : W ((1 - i % 2 : Nat) : Int)) :
    ((2 : Int) ≠ 0 ∧ bcase (decide (xi < (Nat.cast tl : Int))) (ptrK tp (fun a2 => (0 ≤ xi ∧ xi < (Nat.cast tl : Int) ∧ ldB (rd hh (Addr.add a2 (Int.toNat xi * 1))) (fun b3 => bcase b3 (W (IntKind.wrap .i64 (1 - (Int.tmod xi 2)))) (W (Int.tmod xi 2)))))) (W (Int.tmod xi 2))) := by
  have tmi : Int.tmod xi 2 = ((i % 2 : Nat) : Int) := by rw [exi]; exact tm (b := 2) (by omega)
  have p2 : i % 2 = 0 ∨ i % 2 = 1 := by omega
  rw [tmi, one_sub p2]
  refine ⟨by omega, bcase_of (fun g => ?_) fun g => n1⟩
  have g : xi < (tl : Int) := of_decide_eq_true g
  obtain ⟨a, ea, ra⟩ := hB i (by omega)
  rw [ea]
  exact ⟨by omega, by omega, ldB_of (n := tb i) (by rw [exi, show Int.toNat (i : Int) * 1 = i by omega]; exact ra) (bcase_of (fun _ => n2) fun _ => n1)⟩
theorem far_end (F : Far h0 h e b xs (xs.length + 4) (xs.length + 4) G) : F8.wk27 (some ⟨e, 0, none⟩) h (Lawful h0) := by
  unfold F8.wk27 F8.Jk27 F8.wk28 F8.Jk28
  have main : ∀ (d i : Nat), d + i = 4 → F8.wL28 (d + 1) (some ⟨e, 0, none⟩) (i : Int) h (Lawful h0) := by
    intro d
    induction d with
    | zero =>
      intro i hi
      unfold F8.wL28 F8.JL28
      rw [decide_eq_false (by omega), bcase_false]
      exact ⟨rfl, F.O⟩
    | succ d ih =>
      intro i hi
      unfold F8.wL28 F8.JL28
      rw [decide_eq_true (by omega), bcase_true]
      have W := F.Q.W
      obtain ⟨f, hf⟩ := run_has (xs := xs) (xs.length + 4) i (by omega) (by omega)
      have m0 := (F.Q.md 0 (by omega) i (by omega)).2 f hf
      have m1 := (F.Q.md 1 (by omega) i (by omega)).2 f hf
      have rV : ∀ k : Nat, k < 4 → regV G.E (k : Int) (i : Int) = (((G.E.ses k).hnd i : Int), (G.E.ses k).there i) := fun k hk => by
        unfold regV
        rw [if_pos ⟨by omega, by unfold isR; omega⟩, Int.toNat_natCast, Int.toNat_natCast]
      have same : (G.E.ses 0).hnd i = (G.E.ses 1).hnd i := by
        have n8 := W.W.S.ok.2.2.1
        refine canon (n := G.n) (fo := G.fo) (N := G.N) W.W.S.ok.1 W.po n8 G.n (by omega) (W.rg 0 (by omega) i (by omega) m0.1) (W.rg 1 (by omega) i (by omega) m1.1) fun x _ => ?_
        rw [m0.2, m1.2]
      refine reg28 W.I ⟨_, _, rfl, reg28 W.I ⟨_, _, rfl, ?_⟩⟩
      have r0 := rV 0 (by omega)
      have r1 := rV 1 (by omega)
      rw [show ((0 : Nat) : Int) = 0 from rfl] at r0
      rw [show ((1 : Nat) : Int) = 1 from rfl] at r1
      rw [r0, r1, m0.1, m1.1, Bool.not_true, bcase_false, bcase_false, same, show (((G.E.ses 1).hnd i : Int) != ((G.E.ses 1).hnd i : Int)) = false by simp, bcase_false, wr_s (by omega)]
      exact ih (i + 1) (by omega)
  exact ⟨_, main 4 0 (by omega)⟩
set_option maxHeartbeats 2000000 in
set_option maxRecDepth 100000 in
theorem law8 (h : Heap) (bp : Option Addr) (bc : Nat) (zs : List Int) (hI : Ints h .u8 bp zs) (hz : ∀ z ∈ zs, IntKind.min .u8 ≤ z ∧ z ≤ IntKind.max .u8) (_ : (zs.length : Int) ≤ maxLen)
    (tp : Option Addr) (tc tl : Nat) (tb : Nat → Bool) (hB : Bls h tp tl tb) (_ : (tl : Int) ≤ maxLen) (x2 : Int) (r2 : IntKind.min .u8 ≤ x2 ∧ x2 ≤ IntKind.max .u8) :
    CallsH Tryz.prog 8 [.slice bp zs.length bc, .slice tp tl tc, .int .u8 x2] h (Lawful h) := by
  refine F8.spec _ _ _ _ _ _ _ h _ ?_
  unfold F8.w F8.J0
  refine known40 fun h1 O1 => ldB_of rfl ?_
  rw [Bool.not_true, bcase_false]
  refine bcase_of (fun _ => ⟨rfl, O1⟩) fun c => bcase_of (fun _ => ⟨rfl, O1⟩) fun c2 => ?_
  have c : ¬ (12 : Int) < (zs.length : Int) := of_decide_eq_false c
  have c2 : ¬ (40 : Int) < (tl : Int) := of_decide_eq_false c2
  refine ⟨by omega, ?_⟩
  refine new18 (n := 8) (room := 16384) (by omega) (by omega) (by omega) (by omega) fun h2 e G W2 s2 a2 n2 m2 f2 g2 _ N2 j2 w2 _ la2 M2 b2 O2 => ⟨_, _, rfl, ?_⟩
  rw [show ((0 : Int) != 0) = false from rfl, bcase_false]
  have O12 := O1.trans O2 (by simp)
  have z1 := O1.size
  have z2 := O2.size
  have gl : ∀ b ∈ ebl e G, h.size ≤ b := fun b hb => by have := b2 b hb; omega
  refine newK_at fun h3 A3 O3 z3 => ?_
  have exs := toNats hz
  obtain ⟨xs, ex⟩ : ∃ xs, xs = zs.map Int.toNat := ⟨_, rfl⟩
  have lx : xs.length = zs.length := by rw [ex]; simp
  have hx : ∀ o ∈ xs, o < 256 := by rw [ex]; exact toNat_lt hz
  rw [← ex] at exs
  rw [← lx]
  have Q2 := qt_new W2 s2 a2 N2 j2 la2 M2
  have e0 : noF = Fn2 (runR xs 0) (runR xs 0) := by
    funext k r
    unfold noF Fn2 runR
    split
    · rfl
    · split <;> rfl
  rw [e0] at Q2
  have F3 : Far h h3 e h2.size xs 0 0 G := ⟨Q2.only0 O3, A3, fun hm => by have := W2.lt _ hm; omega, by omega, gl, O12.trans O3 (by simp), n2, m2⟩
  have hI' : ∀ hh, Only [] h hh → Ints hh .u8 bp (xs.map fun (o : Nat) => (o : Int)) := fun hh O => by
    rw [← exs]
    exact hI.only O (by simp)
  unfold F8.wk10 F8.Jk10
  have main : ∀ (d i a0 a1 : Nat) (xi : Int) (hh : Heap) (G1 : EG), xi = (i : Int) → a0 + a1 + d = 2 * (xs.length + 4) → i = a0 + a1 → a0 ≤ xs.length + 4 → a1 ≤ xs.length + 4 → Far h hh e h2.size xs a0 a1 G1 →
      F8.wL10 (d + 1) bp xs.length bc tp tl tc (some ⟨e, 0, none⟩) ⟨h2.size, 0, none⟩ xi hh (Lawful h) := by
    intro d
    induction d with
    | zero =>
      intro i a0 a1 xi hh G1 exi hd hi l0 l1 F
      unfold F8.wL10 F8.JL10
      have w4 : IntKind.wrap .i64 ((Nat.cast xs.length : Int) + 4) = ((xs.length + 4 : Nat) : Int) := by rw [wrap_i64 (by omega) (by omega)]; omega
      rw [w4]
      refine ⟨by omega, by omega, ldI_of (by rw [add_mk]; exact F.at0) ?_⟩
      rw [decide_eq_false (by omega), bcase_false]
      refine ⟨by omega, by omega, ldI_of (by rw [add_mk]; exact F.at1) ?_⟩
      rw [decide_eq_false (by omega), bcase_false]
      have e1 : a0 = xs.length + 4 := by omega
      have e2 : a1 = xs.length + 4 := by omega
      subst e1 e2
      exact far_end F
    | succ d ih =>
      intro i a0 a1 xi hh G1 exi hd hi l0 l1 F
      unfold F8.wL10 F8.JL10
      have w4 : IntKind.wrap .i64 ((Nat.cast xs.length : Int) + 4) = ((xs.length + 4 : Nat) : Int) := by rw [wrap_i64 (by omega) (by omega)]; omega
      rw [w4]
      have nx : ∀ s : Nat, s = 0 ∨ s = 1 → F8.wk15 (fun x0p x0l x0c x1p x1l x1c x7 x9 x10 h_1 => F8.wL10 (d + 1) x0p x0l x0c x1p x1l x1c x7 x9 x10 h_1 (Lawful h)) bp xs.length bc tp tl tc (some ⟨e, 0, none⟩) ⟨h2.size, 0, none⟩ xi (s : Int) hh (Lawful h) := fun s hs =>
        far15 hs F (by omega) l0 l1 (by omega) hx hI' exi (by omega) fun h' G' a0' a1' ha k0 k1 F' => ih (i + 1) a0' a1' _ h' G' rfl (by omega) (by omega) k0 k1 F'
      have p2 : i % 2 = 0 ∨ i % 2 = 1 := by omega
      have pick2 := pickb (W := fun q => F8.wk15 (fun x0p x0l x0c x1p x1l x1c x7 x9 x10 h_1 => F8.wL10 (d + 1) x0p x0l x0c x1p x1l x1c x7 x9 x10 h_1 (Lawful h)) bp xs.length bc tp tl tc (some ⟨e, 0, none⟩) ⟨h2.size, 0, none⟩ xi q hh (Lawful h)) (hB.only F.O (by simp)) exi (nx _ p2) (nx _ (by omega))
      refine ⟨by omega, by omega, ldI_of (by rw [add_mk]; exact F.at0) (bcase_of (fun g => pick2) fun g => ?_)⟩
      have g : ¬ (a0 : Int) < ((xs.length + 4 : Nat) : Int) := of_decide_eq_false g
      refine ⟨by omega, by omega, ldI_of (by rw [add_mk]; exact F.at1) ?_⟩
      rw [decide_eq_true (by omega), bcase_true]
      exact pick2
  exact ⟨_, main (2 * (xs.length + 4)) 0 0 0 0 h3 G rfl (by omega) rfl (by omega) (by omega) F3⟩
end
end
end Go.Proofs.YtnofenejoebkhaaGreat.Ev
