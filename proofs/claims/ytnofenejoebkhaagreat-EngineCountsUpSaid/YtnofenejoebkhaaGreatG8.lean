/- PART 8 OF WHAT THE LAW EngineCountsUp STANDS ON: LawP5. Conditions: none but those that each lemma states. -/
import Derived.Test.YtnofenejoebkhaaGreatG7
namespace Go.Proofs.YtnofenejoebkhaaGreat.Ev
open Go
section
theorem tN_not (p : Nat → Bool) : ∀ k, tN p k + tN (fun x => !p x) k = k := by
  intro k
  induction k with
  | zero => rfl
  | succ k ih =>
    rw [tN_succ, tN_succ]
    cases p k <;> simp <;> omega
theorem toNats {zs : List Int} (hz : ∀ z ∈ zs, IntKind.min .u8 ≤ z ∧ z ≤ IntKind.max .u8) : zs = (zs.map Int.toNat).map fun (o : Nat) => (o : Int) := by
  induction zs with
  | nil => rfl
  | cons z l ih =>
    have h1 := hz z (by simp)
    have h2 := ih fun y hy => hz y (by simp [hy])
    have : (0 : Int) ≤ z := h1.1
    rw [List.map_cons, List.map_cons, ← h2]
    congr 1
    omega
theorem toNat_lt {zs : List Int} (hz : ∀ z ∈ zs, IntKind.min .u8 ≤ z ∧ z ≤ IntKind.max .u8) : ∀ o ∈ zs.map Int.toNat, o < 256 := fun o ho => by
  obtain ⟨z, hz', e⟩ := List.mem_map.1 ho
  have h1 := hz z hz'
  have h2 : z ≤ 255 := h1.2
  omega
theorem opsF_has {s : Nat} : ∀ {xs : List Nat} {F : Fns}, has4 F s → has4 (opsF F s xs) s := by
  intro xs
  induction xs with
  | nil => intro F H; exact H
  | cons o l ih => intro F H; exact ih H.upd
theorem var_has (F : Fns) (s : Nat) : has4 (varFns (varFns (varFns (varFns F s 0) s 1) s 2) s 3) s := fun r hr => by
  have : r = 0 ∨ r = 1 ∨ r = 2 ∨ r = 3 := by omega
  rcases this with z | z | z | z <;> subst z
  · exact ⟨_, by show updF (updF (updF (updF F s 0 _) s 1 _) s 2 _) s 3 _ s 0 = _; unfold updF; simp; rfl⟩
  · exact ⟨_, by show updF (updF (updF (updF F s 0 _) s 1 _) s 2 _) s 3 _ s 1 = _; unfold updF; simp; rfl⟩
  · exact ⟨_, by show updF (updF (updF (updF F s 0 _) s 1 _) s 2 _) s 3 _ s 2 = _; unfold updF; simp; rfl⟩
  · exact ⟨_, by show updF (updF (updF (updF F s 0 _) s 1 _) s 2 _) s 3 _ s 3 = _; unfold updF; simp; rfl⟩
theorem Eside.at {h h' : Heap} {e b : Nat} {G G' : EG} {c : List Value} (S : Eside e G h G' h') (A : At h b c) (nb : b ∉ ebl e G) : At h' b c ∧ b ∉ ebl e G' :=
  ⟨A.only (S.O (ebl e G) fun _ h => h) nb, fun hm => by
    rcases S.B b hm with q | q
    · exact nb q
    · have := A.lt; omega⟩
theorem Md.fun {G : EG} {F : Fns} (m : Md G F) {k r : Nat} (hk : k < 4) (hr : r < 6) {f : Nat → Bool} (hf : F k r = some f) (y : Nat) : sm G.n G.fo G.N ((G.E.ses k).hnd r) y = f y := ((m k hk r hr).2 f hf).2 y
def noF : Fns := fun _ _ => none
theorem qt_new {h : Heap} {e : Nat} {G : EG} (W : EWd h e G) (s1 : G.E.ses = (eng0 0 0 0).ses) (a1 : G.E.ans = 0) (N1 : G.N = []) (j1 : G.P.jobs = []) (l1 : G.P.last = 0) (M1 : G.M = 0) : Qt h e G noF 0 :=
  ⟨W, fun k _ r _ => ⟨fun _ => by rw [s1]; rfl, fun f q => by cases q⟩, j1, fun k _ => by rw [s1]; rfl, by omega, by omega, by omega, by rw [N1]; exact Nat.le_refl _, by omega⟩
set_option maxRecDepth 100000 in
theorem law10 (h : Heap) (x0 : Int) (r0 : IntKind.min .u8 ≤ x0 ∧ x0 ≤ IntKind.max .u8) (bp : Option Addr) (bc : Nat) (zs : List Int) (hI : Ints h .u8 bp zs) (hz : ∀ z ∈ zs, IntKind.min .u8 ≤ z ∧ z ≤ IntKind.max .u8) (_ : (zs.length : Int) ≤ maxLen) :
    CallsH Tryz.prog 10 [.int .u8 x0, .slice bp zs.length bc] h (Lawful h) := by
  obtain ⟨p, hp, ep⟩ := mod_b r0 (d := 5) (by omega) (by omega)
  refine F10.spec _ _ _ _ h _ ?_
  unfold F10.w
  rw [ep]
  refine known40 fun h1 O1 => ldB_of rfl ?_
  rw [Bool.not_true, bcase_false]
  refine bcase_of (fun _ => ⟨rfl, O1⟩) fun c => ?_
  have c : ¬ (10 : Int) < (zs.length : Int) := of_decide_eq_false c
  refine ⟨by omega, ?_⟩
  rw [show IntKind.wrap .i64 ((p : Int) + 4) = ((p + 4 : Nat) : Int) by rw [wrap_i64 (by omega) (by omega)]; omega]
  refine new18 (n := p + 4) (room := 16384) (by omega) (by omega) (by omega) (by omega) fun h2 e G W2 s2 a2 n2 m2 f2 g2 _ N2 j2 w2 _ la2 M2 b2 O2 => ⟨_, _, rfl, ?_⟩
  rw [show ((0 : Int) != 0) = false from rfl, bcase_false]
  have O12 := O1.trans O2 (by simp)
  have z1 := O1.size
  have gl : ∀ b ∈ ebl e G, h.size ≤ b := fun b hb => by have := b2 b hb; omega
  have Q2 := qt_new W2 s2 a2 N2 j2 la2 M2
  have exs := toNats hz
  obtain ⟨xs, ex⟩ : ∃ xs, xs = zs.map Int.toNat := ⟨_, rfl⟩
  have lx : xs.length = zs.length := by rw [ex]; simp
  rw [← ex] at exs
  rw [← lx]
  refine fill55 (s := 0) (xs := xs) Q2 (by omega) (by rw [n2]; omega) (by rw [ex]; exact toNat_lt hz) (by omega) (by rw [m2]; omega) (by omega) (fun hh fr => ?_) fun h3 G3 Q3 S3 k3 => ldB_of rfl ?_
  · rw [← exs]
    exact hI.only ((O12.mono (by simp)).trans (fr (ebl e G) fun q hq => hq) fun b hb _ => hb) gl
  rw [Bool.not_true, bcase_false]
  obtain ⟨F3, eF3⟩ : ∃ F3, F3 = opsF (varFns (varFns (varFns (varFns noF 0 0) 0 1) 0 2) 0 3) 0 xs := ⟨_, rfl⟩
  rw [← eF3] at Q3
  have H3 : has4 F3 0 := by rw [eF3]; exact opsF_has (var_has noF 0)
  obtain ⟨f0, hf0⟩ := H3 0 (by omega)
  have n3 : G3.n = p + 4 := k3.1.trans n2
  have o3 : G3.fo = fill (p + 4) := k3.2.1.trans f2
  have r3 : G3.room = 16384 := k3.2.2.1.trans m2
  have id : ∀ j, j < p + 4 → fill (p + 4) j = j := fun j hj => if_pos hj
  refine now_job (s := 0) (op := 1) (d := 4) (c := ⟨3, 1, 4, 0, 0, 0, 0⟩) Q3 (by omega) (by omega) (by show 0 < 256; omega) rfl rfl (.inl rfl) rfl (fun r hr => ?_) (by rw [r3]; omega) (by omega) fun h4 G4 Q4 S4 k4 => ⟨_, _, _, rfl, cells2 fun h5 A5 O5 => ?_⟩
  · have hr : r = 0 := by
      have : rds (⟨3, 1, 4, 0, 0, 0, 0⟩ : Cal) = [0] := rfl
      rw [this] at hr
      simpa using hr
    subst hr
    exact ⟨by unfold isR; omega, f0, hf0⟩
  obtain ⟨F4, eF4⟩ : ∃ F4, F4 = updF F3 0 4 (some fun y => opF 1 (gF F3 0 ⟨3, 1, 4, 0, 0, 0, 0⟩ 0 y) (gF F3 0 ⟨3, 1, 4, 0, 0, 0, 0⟩ 1 y) (gF F3 0 ⟨3, 1, 4, 0, 0, 0, 0⟩ 2 y)) := ⟨_, rfl⟩
  rw [← eF4] at Q4
  have g0 : F4 0 0 = some f0 := by rw [eF4]; unfold updF; rw [if_neg (by omega)]; exact hf0
  have g4 : F4 0 4 = some fun y => !f0 y := by
    rw [eF4]
    unfold updF
    rw [if_pos ⟨rfl, rfl⟩]
    congr 1
    funext y
    show opF 1 (match F3 0 0 with | some f => f y | none => false) _ _ = _
    rw [hf0]
    rfl
  have Q5 := Q4.only0 O5
  have n4 : G4.n = p + 4 := k4.1.trans n3
  have o4 : G4.fo = fill (p + 4) := k4.2.1.trans o3
  have r4 : G4.room = 16384 := k4.2.2.1.trans r3
  have q4 : ∀ {F : Fns} {r : Int}, r = 0 ∨ r = 4 → F = F4 → isR r ∧ ∃ f, F 0 r.toNat = some f := fun {F r} hr e => by
    subst e
    rcases hr with z | z <;> subst z
    · exact ⟨by unfold isR; omega, f0, g0⟩
    · exact ⟨by unfold isR; omega, _, g4⟩
  refine now_ask (s := 0) (c := ⟨4, 0, 0, 0, 0, 0, 0⟩) Q5 (by omega) (by show 0 < 256; omega) (.inl rfl) (fun r hr => q4 (.inl (by have : rds (⟨4, 0, 0, 0, 0, 0, 0⟩ : Cal) = [0] := rfl; rw [this] at hr; simpa using hr)) rfl) (fun _ j hj => by rw [o4]; exact id j (by rw [← n4]; exact hj)) (by rw [r4]; omega) (by omega) fun h6 G6 Q6 S6 k6 => ⟨_, _, _, rfl, cells2 fun h7 A7 O7 => ?_⟩
  have Q7 := Q6.only0 O7
  have n6 : G6.n = p + 4 := k6.1.trans n4
  have o6 : G6.fo = fill (p + 4) := k6.2.1.trans o4
  have r6 : G6.room = 16384 := k6.2.2.1.trans r4
  refine now_ask (s := 0) (c := ⟨4, 0, 0, 4, 0, 0, 0⟩) Q7 (by omega) (by show 0 < 256; omega) (.inl rfl) (fun r hr => q4 (.inr (by have : rds (⟨4, 0, 0, 4, 0, 0, 0⟩ : Cal) = [4] := rfl; rw [this] at hr; simpa using hr)) rfl) (fun _ j hj => by rw [o6]; exact id j (by rw [← n6]; exact hj)) (by rw [r6]; omega) (by omega) fun h8 G8 Q8 S8 k8 => ⟨_, _, _, rfl, cells2 fun h9 A9 O9 => ?_⟩
  have Q9 := Q8.only0 O9
  have n8 : G8.n = p + 4 := k8.1.trans n6
  have o8 : G8.fo = fill (p + 4) := k8.2.1.trans o6
  have r8 : G8.room = 16384 := k8.2.2.1.trans r6
  refine now_ask (s := 0) (c := ⟨5, 0, 0, 0, 0, 0, 0⟩) Q9 (by omega) (by show 0 < 256; omega) (.inr rfl) (fun r hr => q4 (.inl (by have : rds (⟨5, 0, 0, 0, 0, 0, 0⟩ : Cal) = [0, 0] := rfl; rw [this] at hr; simpa using hr)) rfl) (fun q => by cases q) (by rw [r8]; omega) (by omega) fun h10 G10 Q10 S10 k10 => ⟨_, _, _, rfl, cells2 fun h11 A11 O11 => ?_⟩
  have Q11 := Q10.only0 O11
  have n10 : G10.n = p + 4 := k10.1.trans n8
  have r10 : G10.room = 16384 := k10.2.2.1.trans r8
  refine now_ask (s := 0) (c := ⟨5, 0, 0, 0, 4, 0, 0⟩) Q11 (by omega) (by show 0 < 256; omega) (.inr rfl) (fun r hr => q4 (by have : rds (⟨5, 0, 0, 0, 4, 0, 0⟩ : Cal) = [0, 4] := rfl; rw [this] at hr; simpa using hr) rfl) (fun q => by cases q) (by rw [r10]; omega) (by omega) fun h12 G12 Q12 S12 k12 => ⟨_, _, _, rfl, cells2 fun h13 A13 O13 => ?_⟩
  have Q13 := Q12.only0 O13
  have b5 : h4.size ∉ ebl e G4 := fun hm => by have := Q4.W.lt _ hm; omega
  obtain ⟨A5, b5⟩ := S6.at A5 b5
  have A5 := A5.only O7 (by simp)
  obtain ⟨A5, b5⟩ := S8.at A5 b5
  have A5 := A5.only O9 (by simp)
  obtain ⟨A5, b5⟩ := S10.at A5 b5
  have A5 := A5.only O11 (by simp)
  obtain ⟨A5, b5⟩ := S12.at A5 b5
  have A5 := A5.only O13 (by simp)
  have b7 : h6.size ∉ ebl e G6 := fun hm => by have := Q6.W.lt _ hm; omega
  obtain ⟨A7, b7⟩ := S8.at A7 b7
  have A7 := A7.only O9 (by simp)
  obtain ⟨A7, b7⟩ := S10.at A7 b7
  have A7 := A7.only O11 (by simp)
  obtain ⟨A7, b7⟩ := S12.at A7 b7
  have A7 := A7.only O13 (by simp)
  have b9 : h8.size ∉ ebl e G8 := fun hm => by have := Q8.W.lt _ hm; omega
  obtain ⟨A9, b9⟩ := S10.at A9 b9
  have A9 := A9.only O11 (by simp)
  obtain ⟨A9, b9⟩ := S12.at A9 b9
  have A9 := A9.only O13 (by simp)
  have b11 : h10.size ∉ ebl e G10 := fun hm => by have := Q10.W.lt _ hm; omega
  obtain ⟨A11, b11⟩ := S12.at A11 b11
  have A11 := A11.only O13 (by simp)
  rw [bcase_true, bcase_true, bcase_true, bcase_true, bcase_true]
  refine ldI_of (n := 0) (by rw [add_mk, At.rd A5]; rfl) ?_
  rw [show ((0 : Int) == 0) = true from rfl, bcase_true]
  have v1 : askN G4 (bgnS (G4.E.ses 0) ⟨4, 0, 0, 0, 0, 0, 0⟩) = tN f0 (2 ^ (p + 4)) := by
    have : askN G4 (bgnS (G4.E.ses 0) ⟨4, 0, 0, 0, 0, 0, 0⟩) = tA G4.n G4.fo G4.N ((G4.E.ses 0).hnd 0) := if_pos rfl
    rw [this]
    unfold tA
    rw [n4]
    exact tN_congr fun x _ => by have := Q4.md.fun (k := 0) (r := 0) (by omega) (by omega) g0 x; rw [n4] at this; exact this
  have v2 : askN G6 (bgnS (G6.E.ses 0) ⟨4, 0, 0, 4, 0, 0, 0⟩) = tN (fun y => !f0 y) (2 ^ (p + 4)) := by
    have : askN G6 (bgnS (G6.E.ses 0) ⟨4, 0, 0, 4, 0, 0, 0⟩) = tA G6.n G6.fo G6.N ((G6.E.ses 0).hnd 4) := if_pos rfl
    rw [this]
    unfold tA
    rw [n6]
    exact tN_congr fun x _ => by have := Q6.md.fun (k := 0) (r := 4) (by omega) (by omega) g4 x; rw [n6] at this; exact this
  have v3 : askN G8 (bgnS (G8.E.ses 0) ⟨5, 0, 0, 0, 0, 0, 0⟩) = 1 := by
    have : askN G8 (bgnS (G8.E.ses 0) ⟨5, 0, 0, 0, 0, 0, 0⟩) = if (G8.E.ses 0).hnd 0 = (G8.E.ses 0).hnd 0 then 1 else 0 := if_neg (show ¬ (5 : Int) = 4 by decide)
    rw [this, if_pos rfl]
  have v4 : askN G10 (bgnS (G10.E.ses 0) ⟨5, 0, 0, 0, 4, 0, 0⟩) = 0 := by
    have : askN G10 (bgnS (G10.E.ses 0) ⟨5, 0, 0, 0, 4, 0, 0⟩) = if (G10.E.ses 0).hnd 0 = (G10.E.ses 0).hnd 4 then 1 else 0 := if_neg (show ¬ (5 : Int) = 4 by decide)
    rw [this, if_neg]
    intro q
    have e1 := Q10.md.fun (k := 0) (r := 0) (by omega) (by omega) g0 0
    have e2 := Q10.md.fun (k := 0) (r := 4) (by omega) (by omega) g4 0
    rw [q, e2] at e1
    cases hh : f0 0 <;> rw [hh] at e1 <;> cases e1
  refine ldI_of (n := (askN G4 (bgnS (G4.E.ses 0) ⟨4, 0, 0, 0, 0, 0, 0⟩) : Int)) (by rw [add_mk, At.rd A7]; rfl) (ldI_of (n := (askN G6 (bgnS (G6.E.ses 0) ⟨4, 0, 0, 4, 0, 0, 0⟩) : Int)) (by rw [add_mk, At.rd A9]; rfl) ?_)
  have U : ∀ {x : Nat}, x < 2 ^ 64 → IntKind.wrap .u64 (x : Int) = (x : Int) := fun h => wrapU (by unfold U64; omega)
  rw [U (x := p + 4) (by omega)]
  refine ⟨by omega, ?_⟩
  have sum := tN_not f0 (2 ^ (p + 4))
  have p9 : p + 4 ≤ 8 := by omega
  have pw : 2 ^ (p + 4) ≤ 2 ^ 8 := Nat.pow_le_pow_right (by omega) p9
  have e3 : IntKind.wrap .u64 ((askN G4 (bgnS (G4.E.ses 0) ⟨4, 0, 0, 0, 0, 0, 0⟩) : Int) + (askN G6 (bgnS (G6.E.ses 0) ⟨4, 0, 0, 4, 0, 0, 0⟩) : Int)) = ((2 ^ (p + 4) : Nat) : Int) := by
    rw [v1, v2, show ((tN f0 (2 ^ (p + 4)) : Nat) : Int) + ((tN (fun y => !f0 y) (2 ^ (p + 4)) : Nat) : Int) = ((2 ^ (p + 4) : Nat) : Int) by omega, U (by omega)]
  have e4 : IntKind.wrap .u64 ((1 : Int) * 2 ^ (min (Int.toNat ((p + 4 : Nat) : Int)) (IntKind.bits .u64))) = ((2 ^ (p + 4) : Nat) : Int) := by
    rw [Int.toNat_natCast, show min (p + 4) (IntKind.bits .u64) = p + 4 by show min (p + 4) 64 = p + 4; omega, Int.one_mul, show ((2 : Int) ^ (p + 4)) = ((2 ^ (p + 4) : Nat) : Int) by simp, U (by omega)]
  rw [e3, e4, show (((2 ^ (p + 4) : Nat) : Int) == ((2 ^ (p + 4) : Nat) : Int)) = true by simp, bcase_true]
  refine ldI_of (n := (askN G8 (bgnS (G8.E.ses 0) ⟨5, 0, 0, 0, 0, 0, 0⟩) : Int)) (by rw [add_mk, At.rd A11]; rfl) ?_
  rw [v3, show (((1 : Nat) : Int) == 1) = true from rfl, bcase_true]
  refine ldI_of (n := (askN G10 (bgnS (G10.E.ses 0) ⟨5, 0, 0, 0, 4, 0, 0⟩) : Int)) (by rw [add_mk, At.rd A13]; rfl) ?_
  rw [v4, show (((0 : Nat) : Int) == 0) = true from rfl]
  have SS : Eside e G h2 G12 h13 := ((((((((((S3.trans S4).trans (Eside.only0 O5)).trans S6).trans (Eside.only0 O7)).trans S8).trans (Eside.only0 O9)).trans S10).trans (Eside.only0 O11)).trans S12).trans (Eside.only0 O13))
  exact ⟨rfl, SS.only O12 gl⟩
end
end Go.Proofs.YtnofenejoebkhaaGreat.Ev
