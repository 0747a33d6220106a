/- THE TABLE (package utable): what each of its functions does to a row of cells and to a finder, seen from the heap. Conditions: the table and the finder stand (TabIs, FindIs). -/
import Derived.Test.YtbjdjgdbkfjglaaMemC2
import Derived.Test.YtbjdjgdbkfjglaaTabF
namespace Go.Proofs.Ytbjdjgdbkfjglaa.Ev
open Go

def xsf (x : Int) : Int := bitsI .xor .u64 x (Int.fdiv x (2 ^ (min (Int.toNat (33 : Int)) (IntKind.bits .u64))))
def mixF (x : Int) : Int := xsf (IntKind.wrap .u64 (xsf (IntKind.wrap .u64 (xsf x * 18397679294719823053)) * 14181476777654086739))
theorem wrapu_range (x : Int) : 0 ≤ IntKind.wrap .u64 x ∧ IntKind.wrap .u64 x < 18446744073709551616 := by
  rw [wrap_u64']; omega
theorem xsf_range (x : Int) : 0 ≤ xsf x ∧ xsf x < 18446744073709551616 := wrapu_range _
theorem mix_spec {h : Heap} {x : Int} {K : Value → Heap → Prop} (hK : K (.int .u64 (mixF x)) h) : CallsH Try.prog 50 [.int .u64 x] h K := by
  apply F50.spec
  unfold F50.w F50.J0 F50.wk2 F50.Jk2
  refine ⟨3, ?_⟩
  unfold F50.wL2 F50.JL2
  rw [show decide ((0 : Int) < 2) = true from rfl, bcase_true]
  refine ⟨by decide, by decide, ldI_of rfl ⟨by decide, ?_⟩⟩
  unfold F50.wL2 F50.JL2
  dsimp only
  rw [show IntKind.wrap .i64 ((0 : Int) + 1) = 1 from rfl, show decide ((1 : Int) < 2) = true from rfl, bcase_true]
  refine ⟨by decide, by decide, ldI_of rfl ⟨by decide, ?_⟩⟩
  unfold F50.wL2 F50.JL2
  dsimp only
  rw [show IntKind.wrap .i64 ((1 : Int) + 1) = 2 from rfl, show decide ((2 : Int) < 2) = false from rfl, bcase_false]
  exact ⟨by decide, hK⟩
def home (key : Int) (n : Nat) : Nat := ((mixF key).tmod n).toNat
theorem home_lt (key : Int) {n : Nat} (hn : 1 ≤ n) : home key n < n := by
  unfold home
  have h0 : 0 ≤ mixF key := (xsf_range _).1
  rw [Int.tmod_eq_emod_of_nonneg h0]
  have := Int.emod_lt_of_pos (mixF key) (by omega : (0 : Int) < n)
  have := Int.emod_nonneg (mixF key) (by omega : (n : Int) ≠ 0)
  omega
theorem home_spec {h : Heap} {x : Int} {n : Nat} {K : Value → Heap → Prop} (h1 : 1 ≤ n) (h2 : n < 1000000000) (hK : K (.int .i64 (home x n : Int)) h) : CallsH Try.prog 40 [.int .u64 x, .int .i64 (n : Int)] h K := by
  apply F40.spec
  unfold F40.w F40.J0
  rw [decide_eq_false (by omega), bcase_false]
  refine mix_spec (ldI_of rfl ?_)
  rw [wrap_u64 (n := (n : Int)) (by omega) (by omega)]
  have h0 : 0 ≤ mixF x := (xsf_range _).1
  have e : (mixF x).tmod n = (home x n : Int) := by
    unfold home
    rw [Int.tmod_eq_emod_of_nonneg h0]
    have := Int.emod_nonneg (mixF x) (by omega : (n : Int) ≠ 0)
    omega
  have := home_lt x h1
  rw [e, wrap_i64 (by omega) (by omega)]
  exact ⟨by omega, hK⟩

/-- block t is a table over the Mem m -/
def TabIs (h : Heap) (t m base n : Nat) : Prop := At h t [.pointer (some ⟨m, 0, none⟩), .int .i64 (base : Int), .int .i64 (n : Int)]
theorem TabIs.only {S : List Nat} {h h' : Heap} {t m base n : Nat} (H : TabIs h t m base n) (O : Only S h h') (ht : t ∉ S) : TabIs h' t m base n := At.only H O ht
/-- a finder's state -/
structure Fi where
  key : Int
  pos : Nat
  left : Nat
  claims : Bool
  done : Bool
  slot : Int
  e : Int
  made : Bool
def nxt (f : Nat) : Bool → Value
  | true => .func (.func 52) #[.pointer (some ⟨f, 0, none⟩)] #[]
  | false => .func (.func 41) #[.pointer (some ⟨f, 0, none⟩)] #[]
def FindIs (h : Heap) (f t : Nat) (F : Fi) : Prop :=
  At h f [.pointer (some ⟨t, 0, none⟩), .int .u64 F.key, .int .i64 (F.pos : Int), .int .i64 (F.left : Int), nxt f F.claims, .bool F.done, .int .i64 F.slot, .int .i64 F.e, .bool F.made]
theorem FindIs.only {S : List Nat} {h h' : Heap} {f t : Nat} {F : Fi} (H : FindIs h f t F) (O : Only S h h') (ht : f ∉ S) : FindIs h' f t F := At.only H O ht

/-- one step of a finder -/
def stepF (base n : Nat) (cs : List Int) (F : Fi) : Fi × List Int :=
  if F.done then (F, cs) else
  if F.claims then
    if cs.getD (base + F.pos) 0 = 0 then ({ F with claims := false, made := true, done := true, slot := F.pos, e := 0 }, cs.set (base + F.pos) F.key)
    else ({ F with claims := false }, cs)
  else if cs.getD (base + F.pos) 0 = F.key then ({ F with done := true, slot := F.pos, e := 0 }, cs)
  else if cs.getD (base + F.pos) 0 = 0 then ({ F with claims := true }, cs)
  else if F.left = 1 then ({ F with pos := (F.pos + 1) % n, left := 0, done := true, slot := -1, e := 60 }, cs)
  else ({ F with pos := (F.pos + 1) % n, left := F.left - 1 }, cs)

theorem ends_spec {h : Heap} {f t : Nat} {F : Fi} {s e : Int} {K : Value → Heap → Prop} (H : FindIs h f t F)
    (hK : ∀ h', FindIs h' f t { F with done := true, slot := s, e := e } → Only [f] h h' → K (.tuple #[]) h') :
    CallsH Try.prog 51 [.pointer (some ⟨f, 0, none⟩), .int .i64 s, .int .i64 e] h K := by
  apply F51.spec
  unfold F51.w F51.J0
  simp only [add_mk, Nat.zero_add, Nat.add_zero]
  refine stK_at H (by simp) rfl fun h1 A1 O1 _ => stK_at A1 (by simp) rfl fun h2 A2 O2 _ => stK_at A2 (by simp) rfl fun h3 A3 O3 _ => ?_
  exact hK h3 A3 ((O1.trans O2 (by simp)).trans O3 (by simp))

section
variable {h : Heap} {f t m mc base n : Nat} {cs : List Int} {ops fails : Int} {F : Fi} {K : Value → Heap → Prop}

theorem goes_spec (T : TabIs h t m base n) (H : FindIs h f t F) (hn : 1 ≤ n) (hn2 : n < 1000000000) (hp : F.pos < n) (hl : 1 ≤ F.left) (hl2 : F.left < 1000000000)
    (hK : ∀ h', FindIs h' f t (if F.left = 1 then { F with pos := (F.pos + 1) % n, left := 0, done := true, slot := -1, e := 60 } else { F with pos := (F.pos + 1) % n, left := F.left - 1 }) → Only [f] h h' → K (.tuple #[]) h') :
    CallsH Try.prog 53 [.pointer (some ⟨f, 0, none⟩)] h K := by
  apply F53.spec
  unfold F53.w F53.J0
  simp only [add_mk, Nat.zero_add, Nat.add_zero]
  refine ldI_of (by rw [At.rd H]; rfl) (ldP_of (by rw [At.rd H]; rfl) ?_)
  simp only [ptrK_some, add_mk, Nat.zero_add]
  refine ldI_of (by rw [At.rd T]; rfl) ⟨by omega, stK_at H (by simp) rfl fun h1 A1 O1 _ => ?_⟩
  have e1 : (IntKind.wrap .i64 ((F.pos : Int) + 1)).tmod n = (((F.pos + 1) % n : Nat) : Int) := by
    rw [wrap_i64 (by omega) (by omega), Int.tmod_eq_emod_of_nonneg (by omega)]
    simp
  rw [e1] at A1
  refine ldI_of (by rw [A1.rd]; rfl) (stK_at A1 (by simp) rfl fun h2 A2 O2 _ => ?_)
  rw [wrap_i64 (by omega) (by omega)] at A2
  have A2 : FindIs h2 f t { F with pos := (F.pos + 1) % n, left := F.left - 1 } := by
    rw [show (F.left : Int) - 1 = ((F.left - 1 : Nat) : Int) by omega] at A2
    exact A2
  have O12 := O1.trans O2 (by simp)
  refine ldI_of (n := ((F.left - 1 : Nat) : Int)) (by rw [At.rd A2]; rfl) ?_
  by_cases h1 : F.left = 1
  · rw [show (((F.left - 1 : Nat) : Int) == 0) = true by simp [h1], bcase_true]
    refine ends_spec A2 fun h3 A3 O3 => ⟨rfl, hK h3 ?_ (O12.trans O3 (by simp))⟩
    rw [if_pos h1]
    simpa [h1] using A3
  · rw [show (((F.left - 1 : Nat) : Int) == 0) = false by simp; omega, bcase_false]
    refine hK h2 ?_ O12
    rw [if_neg h1]
    exact A2

theorem step_spec (T : TabIs h t m base n) (H : FindIs h f t F) (M : MemIs h m mc cs ops fails) (hn : 1 ≤ n) (hn2 : n < 1000000000) (hb : base < 1000000000) (hp : F.pos < n) (hl : F.done = false → 1 ≤ F.left) (hl2 : F.left < 1000000000)
    (hc : base + n ≤ cs.length) (d1 : f ≠ t) (d2 : f ≠ m) (d3 : f ≠ mc) (d4 : t ≠ m) (d5 : t ≠ mc)
    (hK : ∀ h' fails', FindIs h' f t (stepF base n cs F).1 → TabIs h' t m base n → MemIs h' m mc (stepF base n cs F).2 (if F.done then ops else up ops) fails' → Only [f, m, mc] h h' → K (.bool (stepF base n cs F).1.done) h') :
    CallsH Try.prog 16 [.pointer (some ⟨f, 0, none⟩)] h K := by
  apply F16.spec
  unfold F16.w F16.J0
  simp only [add_mk, Nat.zero_add]
  refine ldB_of (n := F.done) (by rw [At.rd H]; rfl) ?_
  have hend : ∀ h' fails', FindIs h' f t (stepF base n cs F).1 → TabIs h' t m base n → MemIs h' m mc (stepF base n cs F).2 (if F.done then ops else up ops) fails' → Only [f, m, mc] h h' → F16.wk3 ⟨f, 0, none⟩ h' K := by
    intro h' fails' a1 a2 a3 a4
    unfold F16.wk3 F16.Jk3
    simp only [add_mk, Nat.zero_add]
    exact ldB_of (by rw [At.rd a1]; rfl) (hK h' fails' a1 a2 a3 a4)
  cases hd : F.done with
  | true =>
    rw [Bool.not_true, bcase_false]
    have e : stepF base n cs F = (F, cs) := by unfold stepF; rw [if_pos hd]
    rw [e, hd] at hend
    exact hend h fails H T M (Only.refl _ _)
  | false =>
    rw [Bool.not_false, bcase_true]
    have hb2 : IntKind.wrap .i64 ((base : Int) + (F.pos : Int)) = ((base + F.pos : Nat) : Int) := by rw [wrap_i64 (by omega) (by omega)]; simp
    have hi : base + F.pos < cs.length := by omega
    have hg : cs.getD (((base + F.pos : Nat) : Int).toNat) 0 = cs.getD (base + F.pos) 0 := by rw [Int.toNat_natCast]
    rw [hd] at hend
    have hs : ∀ b ∈ [m, mc], b ∈ [f, m, mc] := by simp +contextual
    cases hcl : F.claims with
    | false =>
      refine ⟨_, by rw [At.rd H]; rfl, ?_⟩
      rw [hcl]
      refine dynK_go (by kernel_rfl) ?_
      refine F41.spec _ _ _ ?_
      unfold F41.w F41.J0
      simp only [add_mk, Nat.zero_add, Nat.add_zero]
      refine ldP_of (by rw [At.rd H]; rfl) ?_
      simp only [ptrK_some, add_mk, Nat.zero_add]
      refine ldP_of (by rw [At.rd T]; rfl) (ldP_of (by rw [At.rd H]; rfl) ?_)
      simp only [ptrK_some, add_mk, Nat.zero_add]
      refine ldI_of (by rw [At.rd T]; rfl) (ldI_of (by rw [At.rd H]; rfl) ?_)
      rw [hb2]
      refine load_in M (by omega) (by omega) fun h1 M1 O1 => ldI_of rfl ?_
      have H1 := H.only O1 (by simp [d2, d3])
      have T1 := T.only O1 (by simp [d4, d5])
      have Q1 := O1.mono (T := [f, m, mc]) fun b hb _ => hs b hb
      rw [hg]
      refine ldI_of (n := F.key) (by rw [At.rd H1]; rfl) ?_
      unfold stepF at hend
      rw [if_neg (by simp [hd]), if_neg (by simp [hcl])] at hend
      by_cases hk : cs.getD (base + F.pos) 0 = F.key
      · rw [if_pos hk] at hend
        rw [show (cs.getD (base + F.pos) 0 == F.key) = true by simpa using hk, bcase_true]
        refine ldI_of (by rw [At.rd H1]; rfl) (ends_spec H1 fun h2 H2 O2 => ⟨by trivial, by trivial, ?_⟩)
        exact hend h2 fails H2 (T1.only O2 (by simp [d1.symm])) (M1.only O2 (by simp [d2.symm]) (by simp [d3.symm])) (Q1.trans O2 (by simp))
      · rw [if_neg hk] at hend
        rw [show (cs.getD (base + F.pos) 0 == F.key) = false by simpa using hk, bcase_false]
        by_cases hz : cs.getD (base + F.pos) 0 = 0
        · rw [if_pos hz] at hend
          rw [show (cs.getD (base + F.pos) 0 == 0) = true by simpa using hz, bcase_true]
          refine stK_at H1 (by simp) rfl fun h2 A2 O2 _ => ⟨by trivial, ?_⟩
          exact hend h2 fails A2 (T1.only O2 (by simp [d1.symm])) (M1.only O2 (by simp [d2.symm]) (by simp [d3.symm])) (Q1.trans O2 (by simp))
        · rw [if_neg hz] at hend
          rw [show (cs.getD (base + F.pos) 0 == 0) = false by simpa using hz, bcase_false]
          refine goes_spec T1 H1 hn hn2 hp (hl hd) hl2 fun h2 H2 O2 => ⟨by trivial, by trivial, ?_⟩
          have T2 := T1.only O2 (by simp [d1.symm])
          have M2 := M1.only O2 (by simp [d2.symm]) (by simp [d3.symm])
          have Q2 := Q1.trans O2 (by simp)
          by_cases h1 : F.left = 1
          · rw [if_pos h1] at hend H2
            exact hend h2 fails H2 T2 M2 Q2
          · rw [if_neg h1] at hend H2
            exact hend h2 fails H2 T2 M2 Q2
    | true =>
      refine ⟨_, by rw [At.rd H]; rfl, ?_⟩
      rw [hcl]
      refine dynK_go (by kernel_rfl) ?_
      refine F52.spec _ _ _ ?_
      unfold F52.w F52.J0
      simp only [add_mk, Nat.zero_add, Nat.add_zero]
      refine stK_at H (by simp) rfl fun h1 A1 O1 _ => ?_
      have H1 : FindIs h1 f t { F with claims := false } := A1
      have T1 := T.only O1 (by simp [d1.symm])
      have M1 := M.only O1 (by simp [d2.symm]) (by simp [d3.symm])
      have Q1 := O1.mono (T := [f, m, mc]) fun b hb _ => (by simp at hb; simp [hb])
      refine ldP_of (by rw [At.rd H1]; rfl) ?_
      simp only [ptrK_some, add_mk, Nat.zero_add]
      refine ldP_of (by rw [At.rd T1]; rfl) (ldP_of (by rw [At.rd H1]; rfl) ?_)
      simp only [ptrK_some, add_mk, Nat.zero_add]
      refine ldI_of (by rw [At.rd T1]; rfl) (ldI_of (by rw [At.rd H1]; rfl) (ldI_of (n := F.key) (by rw [At.rd H1]; rfl) ?_))
      rw [hb2]
      unfold stepF at hend
      rw [if_neg (by simp [hd]), if_pos (by simp [hcl])] at hend
      refine cas_in M1 (by omega) (by omega) (fun e h2 M2 O2 => ?_) fun e h2 M2 O2 => ?_
      · rw [hg] at e
        rw [if_pos e] at hend
        rw [ldB_some, bcase_true]
        refine stK_at (H1.only O2 (by simp [d2, d3])) (by simp) rfl fun h3 A3 O3 _ => ?_
        have H3 : FindIs h3 f t { F with claims := false, made := true } := A3
        refine ldI_of (by rw [At.rd H3]; rfl) (ends_spec H3 fun h4 H4 O4 => ⟨by trivial, by trivial, ?_⟩)
        have O34 := O3.trans O4 (by simp)
        rw [Int.toNat_natCast] at M2
        exact hend h4 fails H4 ((T1.only O2 (by simp [d4, d5])).only O34 (by simp [d1.symm])) (M2.only O34 (by simp [d2.symm]) (by simp [d3.symm])) ((Q1.trans O2 fun b hb _ => hs b hb).trans O34 (by simp))
      · rw [hg] at e
        rw [if_neg e] at hend
        rw [ldB_some, bcase_false]
        exact ⟨by trivial, hend h2 (up fails) (H1.only O2 (by simp [d2, d3])) (T1.only O2 (by simp [d4, d5])) M2 (Q1.trans O2 fun b hb _ => hs b hb)⟩

/-- a finder as it begins -/
def newFi (key : Int) (n : Nat) : Fi := ⟨key, home key n, n, false, key == 0, -1, 61, false⟩
theorem find_spec {key : Int} (T : TabIs h t m base n) (hn : 1 ≤ n) (hn2 : n < 1000000000)
    (hK : ∀ f h', FindIs h' f t (newFi key n) → Only [] h h' → h.size ≤ f → K (.pointer (some ⟨f, 0, none⟩)) h') :
    CallsH Try.prog 14 [.pointer (some ⟨t, 0, none⟩), .int .u64 key] h K := by
  apply F14.spec
  unfold F14.w F14.J0
  simp only [add_mk, Nat.zero_add, Nat.add_zero]
  have hr : rd h ⟨t, 2, none⟩ = some (.int .i64 (n : Int)) := by rw [At.rd T]; rfl
  refine ldI_of hr (ldI_of hr (home_spec hn hn2 (ldI_of rfl ⟨trivial, trivial, trivial, trivial, trivial, ldI_of hr ⟨rfl, trivial, trivial, ?_⟩⟩)))
  refine newK_at fun h1 A1 O1 z1 => stK_at A1 (by simp) rfl fun h2 A2 O2 _ => ?_
  exact hK h.size h2 A2 (O1.trans O2 fun b hb hl => absurd (show b = h.size by simpa using hb) (by omega)) (Nat.le_refl _)
theorem done_spec (H : FindIs h f t F) (hK : K (.bool F.done) h) : CallsH Try.prog 17 [.pointer (some ⟨f, 0, none⟩)] h K := by
  apply F17.spec
  unfold F17.w F17.J0
  simp only [add_mk, Nat.zero_add]
  exact ldB_of (by rw [At.rd H]; rfl) hK
theorem made_spec (H : FindIs h f t F) (hK : K (.bool F.made) h) : CallsH Try.prog 21 [.pointer (some ⟨f, 0, none⟩)] h K := by
  apply F21.spec
  unfold F21.w F21.J0
  simp only [add_mk, Nat.zero_add]
  exact ldB_of (by rw [At.rd H]; rfl) hK
theorem slot_spec (H : FindIs h f t F) (hK : K (.tuple #[.int .i64 F.slot, .int .i64 F.e]) h) : CallsH Try.prog 18 [.pointer (some ⟨f, 0, none⟩)] h K := by
  apply F18.spec
  unfold F18.w F18.J0
  simp only [add_mk, Nat.zero_add]
  exact ldI_of (by rw [At.rd H]; rfl) (ldI_of (by rw [At.rd H]; rfl) hK)
theorem slots_spec (T : TabIs h t m base n) (hK : K (.int .i64 (n : Int)) h) : CallsH Try.prog 26 [.pointer (some ⟨t, 0, none⟩)] h K := by
  apply F26.spec
  unfold F26.w F26.J0
  simp only [add_mk, Nat.zero_add]
  exact ldI_of (by rw [At.rd T]; rfl) hK
theorem tabnew_spec {base n : Nat} (M : MemIs h m mc cs ops fails) (hn : 1 ≤ n) (hb : base + n ≤ cs.length) (hc : cs.length < 1000000000)
    (hK : ∀ t h', TabIs h' t m base n → Only [] h h' → h.size ≤ t → K (.tuple #[.pointer (some ⟨t, 0, none⟩), .int .i64 0]) h') :
    CallsH Try.prog 13 [.pointer (some ⟨m, 0, none⟩), .int .i64 (base : Int), .int .i64 (n : Int)] h K := by
  apply F13.spec
  unfold F13.w F13.J0
  rw [decide_eq_false (by omega), bcase_false, decide_eq_false (by omega), bcase_false]
  refine len_spec M (ldI_of rfl ?_)
  rw [decide_eq_false (by omega), bcase_false]
  refine len_spec M (ldI_of rfl ?_)
  rw [wrap_i64 (by omega) (by omega), decide_eq_false (by omega), bcase_false]
  exact newK_at fun h1 A1 O1 z1 => hK h.size h1 A1 O1 (Nat.le_refl _)
theorem tabnew_out {base n : Nat} (M : MemIs h m mc cs ops fails) (hn : 1 ≤ n) (hb : base ≤ cs.length) (hb2 : cs.length < base + n) (hc : cs.length < 1000000000)
    (hK : K (.tuple #[.pointer none, .int .i64 61]) h) :
    CallsH Try.prog 13 [.pointer (some ⟨m, 0, none⟩), .int .i64 (base : Int), .int .i64 (n : Int)] h K := by
  apply F13.spec
  unfold F13.w F13.J0
  rw [decide_eq_false (by omega), bcase_false, decide_eq_false (by omega), bcase_false]
  refine len_spec M (ldI_of rfl ?_)
  rw [decide_eq_false (by omega), bcase_false]
  refine len_spec M (ldI_of rfl ?_)
  rw [wrap_i64 (by omega) (by omega), decide_eq_true (by omega), bcase_true]
  exact hK
end
end Go.Proofs.Ytbjdjgdbkfjglaa.Ev
