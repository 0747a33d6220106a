/- THE CACHE (package cache): what each of its functions does to lines of cells and to an act, seen from the heap. Conditions: the cache and the act stand (CacIs, ActIs). -/
import Derived.Test.YtbjdjgdbkfjglaaMemC2
import Derived.Test.YtbjdjgdbkfjglaaBitsC
import Derived.Test.YtbjdjgdbkfjglaaCacF
import Derived.Test.YtbjdjgdbkfjglaaEvK
namespace Go.Proofs.Ytbjdjgdbkfjglaa.Ev
open Go

/-- block c is a cache over the Mem m -/
def CacIs (h : Heap) (c m base n : Nat) : Prop := At h c [.pointer (some ⟨m, 0, none⟩), .int .i64 (base : Int), .int .i64 (n : Int)]
theorem CacIs.only {S : List Nat} {h h' : Heap} {t m base n : Nat} (H : CacIs h t m base n) (O : Only S h h') (ht : t ∉ S) : CacIs h' t m base n := At.only H O ht
structure Ac where
  key : Int
  val : Int
  pos : Nat
  ver : Int
  ph : Nat
  done : Bool
  ok : Bool
  got : Int
/-- the function of a phase: a put's 0 to 4, a get's 5 to 8 -/
def phf : Nat → Nat
  | 0 => 45
  | 1 => 56
  | 2 => 63
  | 3 => 67
  | 4 => 68
  | 5 => 44
  | 6 => 55
  | 7 => 62
  | _ => 66
theorem go45 : xget X 45 = some Ext.go := by kernel_rfl
theorem go56 : xget X 56 = some Ext.go := by kernel_rfl
theorem go63 : xget X 63 = some Ext.go := by kernel_rfl
theorem go67 : xget X 67 = some Ext.go := by kernel_rfl
theorem go68 : xget X 68 = some Ext.go := by kernel_rfl
theorem go44 : xget X 44 = some Ext.go := by kernel_rfl
theorem go55 : xget X 55 = some Ext.go := by kernel_rfl
theorem go62 : xget X 62 = some Ext.go := by kernel_rfl
theorem go66 : xget X 66 = some Ext.go := by kernel_rfl
theorem phf_go : ∀ k, k ≤ 8 → xget X (phf k) = some Ext.go
  | 0, _ => go45
  | 1, _ => go56
  | 2, _ => go63
  | 3, _ => go67
  | 4, _ => go68
  | 5, _ => go44
  | 6, _ => go55
  | 7, _ => go62
  | 8, _ => go66
def nxa (f ph : Nat) : Value := .func (.func (phf ph)) #[.pointer (some ⟨f, 0, none⟩)] #[]
def ActIs (h : Heap) (f m : Nat) (A : Ac) : Prop :=
  At h f [.pointer (some ⟨m, 0, none⟩), .int .i64 (A.pos : Int), .int .u64 A.key, .int .u64 A.val, .int .u64 A.ver, nxa f A.ph, .bool A.done, .bool A.ok, .int .u64 A.got]
theorem ActIs.only {S : List Nat} {h h' : Heap} {f m : Nat} {A : Ac} (H : ActIs h f m A) (O : Only S h h') (ht : f ∉ S) : ActIs h' f m A := At.only H O ht

/-- one step of an act -/
def stepA (cs : List Int) (A : Ac) : Ac × List Int :=
  if A.done then (A, cs) else
  match A.ph with
  | 0 => ({ A with ver := cs.getD A.pos 0, ph := 1, done := bitsI .and .u64 (cs.getD A.pos 0) 1 != 0 }, cs)
  | 1 => if cs.getD A.pos 0 = A.ver then ({ A with ph := 2, done := false }, cs.set A.pos (bitsI .or .u64 A.ver 1)) else ({ A with ph := 2, done := true }, cs)
  | 2 => ({ A with ph := 3 }, cs.set (A.pos + 1) A.key)
  | 3 => ({ A with ph := 4 }, cs.set (A.pos + 2) A.val)
  | 4 => ({ A with done := true }, cs.set A.pos (IntKind.wrap .u64 (bitsI .or .u64 A.ver 2 + 4)))
  | 5 => ({ A with ver := cs.getD A.pos 0, ph := 6, done := bitsI .and .u64 (cs.getD A.pos 0) 3 != 2 }, cs)
  | 6 => ({ A with ph := 7, done := cs.getD (A.pos + 1) 0 != A.key }, cs)
  | 7 => ({ A with ph := 8, got := cs.getD (A.pos + 2) 0 }, cs)
  | _ => ({ A with ok := cs.getD A.pos 0 == A.ver, done := true }, cs)
theorem stepA_len {cs : List Int} {A : Ac} : (stepA cs A).2.length = cs.length := by
  unfold stepA
  repeat' split
  all_goals simp

section
variable {h : Heap} {f c m mc base n : Nat} {cs : List Int} {ops fails : Int} {A : Ac} {K : Value → Heap → Prop}

theorem stepA_spec (H : ActIs h f m A) (M : MemIs h m mc cs ops fails) (hp : A.pos + 2 < cs.length) (hc : cs.length < 1000000000) (hph : A.ph ≤ 8) (d2 : f ≠ m) (d3 : f ≠ mc)
    (hK : ∀ h' ops' fails', ActIs h' f m (stepA cs A).1 → MemIs h' m mc (stepA cs A).2 ops' fails' → Only [f, m, mc] h h' → K (.bool (stepA cs A).1.done) h') :
    CallsH Try.prog 36 [.pointer (some ⟨f, 0, none⟩)] h K := by
  apply F36.spec
  unfold F36.w F36.J0
  simp only [add_mk, Nat.zero_add]
  refine ldB_of (n := A.done) (by rw [At.rd H]; rfl) ?_
  have hend : ∀ h' ops' fails', ActIs h' f m (stepA cs A).1 → MemIs h' m mc (stepA cs A).2 ops' fails' → Only [f, m, mc] h h' → F36.wk3 ⟨f, 0, none⟩ h' K := by
    intro h' ops' fails' a1 a2 a3
    unfold F36.wk3 F36.Jk3
    simp only [add_mk, Nat.zero_add]
    exact ldB_of (by rw [At.rd a1]; rfl) (hK h' ops' fails' a1 a2 a3)
  cases hd : A.done with
  | true =>
    rw [Bool.not_true, bcase_false]
    have e : stepA cs A = (A, cs) := by unfold stepA; rw [if_pos hd]
    rw [e] at hend
    exact hend h ops fails H M (Only.refl _ _)
  | false =>
    rw [Bool.not_false, bcase_true]
    have hs : ∀ b ∈ [m, mc], b ∈ [f, m, mc] := by simp +contextual
    have hS : ∀ b ∈ [f], b ∈ [f, m, mc] := by simp
    have d2' := d2.symm
    have d3' := d3.symm
    have w1 : IntKind.wrap .i64 ((A.pos : Int) + 1) = ((A.pos + 1 : Nat) : Int) := by rw [wrap_i64 (by omega) (by omega)]; simp
    have w2 : IntKind.wrap .i64 ((A.pos : Int) + 2) = ((A.pos + 2 : Nat) : Int) := by rw [wrap_i64 (by omega) (by omega)]; simp
    unfold stepA at hend
    rw [if_neg (by simp [hd])] at hend
    have hx := phf_go A.ph hph
    refine ⟨_, by rw [At.rd H]; rfl, dynK_go hx ?_⟩
    clear hx
    obtain ⟨key, val, pos, ver, ph, done, ok, got⟩ := A
    dsimp only at *
    subst hd
    match ph, hph, H, hend with
    | 0, _, H, hend =>
      refine F45.spec _ _ _ ?_
      unfold F45.w F45.J0
      simp only [add_mk, Nat.zero_add, Nat.add_zero]
      refine ldP_of (by rw [At.rd H]; rfl) (ldI_of (n := (pos : Int)) (by rw [At.rd H]; rfl) (load_in M (by omega) (by omega) fun h1 M1 O1 => ldI_of rfl ⟨trivial, ?_⟩))
      have H1 := H.only O1 (by simp [d2, d3])
      rw [Int.toNat_natCast]
      refine stK_at H1 (by simp) rfl fun h2 A2 O2 _ => stK_at A2 (by simp) rfl fun h3 A3 O3 _ => ldI_of (n := cs.getD pos 0) (by rw [A3.rd]; rfl) (stK_at A3 (by simp) rfl fun h4 A4 O4 _ => ⟨by trivial, ?_⟩)
      have O24 := (O2.trans O3 (by simp)).trans O4 (by simp)
      exact hend h4 _ _ A4 (M1.only O24 (by simp [d2']) (by simp [d3'])) ((O1.mono fun b hb _ => hs b hb).trans O24 fun b hb _ => hS b hb)
    | 1, _, H, hend =>
      refine F56.spec _ _ _ ?_
      unfold F56.w F56.J0
      simp only [add_mk, Nat.zero_add, Nat.add_zero]
      refine stK_at H (by simp) rfl fun h1 A1 O1 _ => ?_
      have M1 := M.only O1 (by simp [d2']) (by simp [d3'])
      refine ldP_of (by rw [A1.rd]; rfl) (ldI_of (n := (pos : Int)) (by rw [A1.rd]; rfl) (ldI_of (n := ver) (by rw [A1.rd]; rfl) (ldI_of (n := ver) (by rw [A1.rd]; rfl) ?_)))
      refine cas_in M1 (by omega) (by omega) (fun e h2 M2 O2 => ldB_of rfl ⟨trivial, ?_⟩) fun e h2 M2 O2 => ldB_of rfl ⟨trivial, ?_⟩
      all_goals rw [Int.toNat_natCast] at e
      · rw [Int.toNat_natCast] at M2
        refine stK_at (A1.only O2 (by simp [d2, d3])) (by simp) rfl fun h3 A3 O3 _ => ⟨by trivial, ?_⟩
        rw [if_pos e] at hend
        exact hend h3 _ _ A3 (M2.only O3 (by simp [d2']) (by simp [d3'])) (((O1.mono fun b hb _ => hS b hb).trans O2 fun b hb _ => hs b hb).trans O3 fun b hb _ => hS b hb)
      · refine stK_at (A1.only O2 (by simp [d2, d3])) (by simp) rfl fun h3 A3 O3 _ => ⟨by trivial, ?_⟩
        rw [if_neg e] at hend
        exact hend h3 _ _ A3 (M2.only O3 (by simp [d2']) (by simp [d3'])) (((O1.mono fun b hb _ => hS b hb).trans O2 fun b hb _ => hs b hb).trans O3 fun b hb _ => hS b hb)
    | 2, _, H, hend =>
      refine F63.spec _ _ _ ?_
      unfold F63.w F63.J0
      simp only [add_mk, Nat.zero_add, Nat.add_zero]
      refine ldP_of (by rw [At.rd H]; rfl) (ldI_of (n := (pos : Int)) (by rw [At.rd H]; rfl) (ldI_of (n := key) (by rw [At.rd H]; rfl) ?_))
      rw [w1]
      refine store_in M (by omega) (by omega) fun h1 M1 O1 => ⟨rfl, stK_at (H.only O1 (by simp [d2, d3])) (by simp) rfl fun h2 A2 O2 _ => ⟨by trivial, ?_⟩⟩
      rw [Int.toNat_natCast] at M1
      exact hend h2 _ _ A2 (M1.only O2 (by simp [d2']) (by simp [d3'])) ((O1.mono fun b hb _ => hs b hb).trans O2 fun b hb _ => hS b hb)
    | 3, _, H, hend =>
      refine F67.spec _ _ _ ?_
      unfold F67.w F67.J0
      simp only [add_mk, Nat.zero_add, Nat.add_zero]
      refine ldP_of (by rw [At.rd H]; rfl) (ldI_of (n := (pos : Int)) (by rw [At.rd H]; rfl) (ldI_of (n := val) (by rw [At.rd H]; rfl) ?_))
      rw [w2]
      refine store_in M (by omega) (by omega) fun h1 M1 O1 => ⟨rfl, stK_at (H.only O1 (by simp [d2, d3])) (by simp) rfl fun h2 A2 O2 _ => ⟨by trivial, ?_⟩⟩
      rw [Int.toNat_natCast] at M1
      exact hend h2 _ _ A2 (M1.only O2 (by simp [d2']) (by simp [d3'])) ((O1.mono fun b hb _ => hs b hb).trans O2 fun b hb _ => hS b hb)
    | 4, _, H, hend =>
      refine F68.spec _ _ _ ?_
      unfold F68.w F68.J0
      simp only [add_mk, Nat.zero_add, Nat.add_zero]
      refine ldP_of (by rw [At.rd H]; rfl) (ldI_of (n := (pos : Int)) (by rw [At.rd H]; rfl) (ldI_of (n := ver) (by rw [At.rd H]; rfl) ?_))
      refine store_in M (by omega) (by omega) fun h1 M1 O1 => ⟨rfl, stK_at (H.only O1 (by simp [d2, d3])) (by simp) rfl fun h2 A2 O2 _ => ⟨by trivial, ?_⟩⟩
      rw [Int.toNat_natCast] at M1
      exact hend h2 _ _ A2 (M1.only O2 (by simp [d2']) (by simp [d3'])) ((O1.mono fun b hb _ => hs b hb).trans O2 fun b hb _ => hS b hb)
    | 5, _, H, hend =>
      refine F44.spec _ _ _ ?_
      unfold F44.w F44.J0
      simp only [add_mk, Nat.zero_add, Nat.add_zero]
      refine ldP_of (by rw [At.rd H]; rfl) (ldI_of (n := (pos : Int)) (by rw [At.rd H]; rfl) (load_in M (by omega) (by omega) fun h1 M1 O1 => ldI_of rfl ⟨trivial, ?_⟩))
      have H1 := H.only O1 (by simp [d2, d3])
      rw [Int.toNat_natCast]
      refine stK_at H1 (by simp) rfl fun h2 A2 O2 _ => stK_at A2 (by simp) rfl fun h3 A3 O3 _ => ldI_of (n := cs.getD pos 0) (by rw [A3.rd]; rfl) (stK_at A3 (by simp) rfl fun h4 A4 O4 _ => ⟨by trivial, ?_⟩)
      have O24 := (O2.trans O3 (by simp)).trans O4 (by simp)
      exact hend h4 _ _ A4 (M1.only O24 (by simp [d2']) (by simp [d3'])) ((O1.mono fun b hb _ => hs b hb).trans O24 fun b hb _ => hS b hb)
    | 6, _, H, hend =>
      refine F55.spec _ _ _ ?_
      unfold F55.w F55.J0
      simp only [add_mk, Nat.zero_add, Nat.add_zero]
      refine ldP_of (by rw [At.rd H]; rfl) (ldI_of (n := (pos : Int)) (by rw [At.rd H]; rfl) (ldI_of (n := key) (by rw [At.rd H]; rfl) ?_))
      rw [w1]
      refine load_in M (by omega) (by omega) fun h1 M1 O1 => ldI_of rfl ⟨trivial, trivial, trivial, trivial, ?_⟩
      have H1 := H.only O1 (by simp [d2, d3])
      rw [Int.toNat_natCast]
      refine ldI_of (n := key) (by rw [At.rd H1]; rfl) ⟨rfl, stK_at H1 (by simp) rfl fun h2 A2 O2 _ => stK_at A2 (by simp) rfl fun h3 A3 O3 _ => ⟨by trivial, ?_⟩⟩
      have O24 := O2.trans O3 (by simp)
      exact hend h3 _ _ A3 (M1.only O24 (by simp [d2']) (by simp [d3'])) ((O1.mono fun b hb _ => hs b hb).trans O24 fun b hb _ => hS b hb)
    | 7, _, H, hend =>
      refine F62.spec _ _ _ ?_
      unfold F62.w F62.J0
      simp only [add_mk, Nat.zero_add, Nat.add_zero]
      refine ldP_of (by rw [At.rd H]; rfl) (ldI_of (n := (pos : Int)) (by rw [At.rd H]; rfl) ?_)
      rw [w2]
      refine load_in M (by omega) (by omega) fun h1 M1 O1 => ldI_of rfl ⟨trivial, ?_⟩
      have H1 := H.only O1 (by simp [d2, d3])
      rw [Int.toNat_natCast]
      refine stK_at H1 (by simp) rfl fun h2 A2 O2 _ => stK_at A2 (by simp) rfl fun h3 A3 O3 _ => ⟨by trivial, ?_⟩
      have O24 := O2.trans O3 (by simp)
      exact hend h3 _ _ A3 (M1.only O24 (by simp [d2']) (by simp [d3'])) ((O1.mono fun b hb _ => hs b hb).trans O24 fun b hb _ => hS b hb)
    | 8, _, H, hend =>
      refine F66.spec _ _ _ ?_
      unfold F66.w F66.J0
      simp only [add_mk, Nat.zero_add, Nat.add_zero]
      refine ldP_of (by rw [At.rd H]; rfl) (ldI_of (n := (pos : Int)) (by rw [At.rd H]; rfl) (ldI_of (n := ver) (by rw [At.rd H]; rfl) ?_))
      refine load_in M (by omega) (by omega) fun h1 M1 O1 => ldI_of rfl ⟨trivial, trivial, trivial, trivial, ?_⟩
      have H1 := H.only O1 (by simp [d2, d3])
      rw [Int.toNat_natCast]
      refine ldI_of (n := ver) (by rw [At.rd H1]; rfl) ⟨rfl, stK_at H1 (by simp) rfl fun h2 A2 O2 _ => stK_at A2 (by simp) rfl fun h3 A3 O3 _ => ⟨by trivial, ?_⟩⟩
      have O24 := O2.trans O3 (by simp)
      exact hend h3 _ _ A3 (M1.only O24 (by simp [d2']) (by simp [d3'])) ((O1.mono fun b hb _ => hs b hb).trans O24 fun b hb _ => hS b hb)

/-- a line's first cell -/
def lineOf (base n : Nat) (key : Int) : Nat := base + 3 * home key n
theorem line_spec {key : Int} (C : CacIs h c m base n) (hn : 1 ≤ n) (hn2 : n < 10000) (hb : base < 1000000) (hK : K (.int .i64 (lineOf base n key : Int)) h) : CallsH Try.prog 43 [.pointer (some ⟨c, 0, none⟩), .int .u64 key] h K := by
  apply F43.spec
  unfold F43.w F43.J0
  simp only [add_mk, Nat.zero_add]
  have hl := home_lt key hn
  have r1 : rd h ⟨c, 1, none⟩ = some (.int .i64 (base : Int)) := by rw [At.rd C]; rfl
  refine ldI_of r1 (ldI_of (n := (n : Int)) (by rw [At.rd C]; rfl) (home_spec hn (by omega) (ldI_of rfl ⟨trivial, trivial, trivial, ldI_of r1 ⟨rfl, ?_⟩⟩)))
  rw [show IntKind.wrap .i64 ((base : Int) + IntKind.wrap .i64 (3 * (home key n : Int))) = (lineOf base n key : Int) by
    unfold lineOf
    rw [wrap_i64 (n := 3 * (home key n : Int)) (by omega) (by omega), wrap_i64 (by omega) (by omega)]
    simp]
  exact hK
def getA (base n : Nat) (key : Int) : Ac := ⟨key, 0, lineOf base n key, 0, 5, false, false, 0⟩
def putA (base n : Nat) (key val : Int) : Ac := ⟨key, val, lineOf base n key, 0, 0, false, false, 0⟩
theorem get_spec {key : Int} (C : CacIs h c m base n) (hn : 1 ≤ n) (hn2 : n < 10000) (hb : base < 1000000)
    (hK : ∀ f h', ActIs h' f m (getA base n key) → Only [] h h' → h.size ≤ f → K (.pointer (some ⟨f, 0, none⟩)) h') : CallsH Try.prog 31 [.pointer (some ⟨c, 0, none⟩), .int .u64 key] h K := by
  apply F31.spec
  unfold F31.w F31.J0
  simp only [add_mk, Nat.zero_add, Nat.add_zero]
  have r0 : rd h ⟨c, 0, none⟩ = some (.pointer (some ⟨m, 0, none⟩)) := by rw [At.rd C]; rfl
  refine ldP_of r0 (line_spec C hn hn2 hb (ldI_of rfl ⟨trivial, trivial, trivial, ldP_of r0 ⟨rfl, trivial, newK_at fun h1 A1 O1 z1 => stK_at A1 (by simp) rfl fun h2 A2 O2 _ => ?_⟩⟩))
  exact hK h.size h2 A2 (O1.trans O2 fun b hb hl => absurd (show b = h.size by simpa using hb) (by omega)) (Nat.le_refl _)
theorem put_spec {key val : Int} (C : CacIs h c m base n) (hn : 1 ≤ n) (hn2 : n < 10000) (hb : base < 1000000)
    (hK : ∀ f h', ActIs h' f m (putA base n key val) → Only [] h h' → h.size ≤ f → K (.pointer (some ⟨f, 0, none⟩)) h') : CallsH Try.prog 32 [.pointer (some ⟨c, 0, none⟩), .int .u64 key, .int .u64 val] h K := by
  apply F32.spec
  unfold F32.w F32.J0
  simp only [add_mk, Nat.zero_add, Nat.add_zero]
  have r0 : rd h ⟨c, 0, none⟩ = some (.pointer (some ⟨m, 0, none⟩)) := by rw [At.rd C]; rfl
  refine ldP_of r0 (line_spec C hn hn2 hb (ldI_of rfl ⟨trivial, trivial, trivial, ldP_of r0 ⟨rfl, trivial, trivial, newK_at fun h1 A1 O1 z1 => stK_at A1 (by simp) rfl fun h2 A2 O2 _ => ?_⟩⟩))
  exact hK h.size h2 A2 (O1.trans O2 fun b hb hl => absurd (show b = h.size by simpa using hb) (by omega)) (Nat.le_refl _)
def gotV (A : Ac) : Int := if A.done && A.ok then A.got else 0
def gotB (A : Ac) : Bool := A.done && A.ok
theorem got_spec (H : ActIs h f m A) (hK : K (.tuple #[.int .u64 (gotV A), .bool (gotB A)]) h) : CallsH Try.prog 38 [.pointer (some ⟨f, 0, none⟩)] h K := by
  apply F38.spec
  unfold F38.w F38.J0
  simp only [add_mk, Nat.zero_add]
  unfold gotV gotB at hK
  refine ldB_of (n := A.done) (by rw [At.rd H]; rfl) (bcase_of (fun e => ?_) fun e => ldB_of (n := A.ok) (by rw [At.rd H]; rfl) (bcase_of (fun e' => ?_) fun e' => ldI_of (n := A.got) (by rw [At.rd H]; rfl) ?_))
  · have e : A.done = false := by simpa using e
    simpa [e] using hK
  · have e : A.done = true := by simpa using e
    have e' : A.ok = false := by simpa using e'
    simpa [e, e'] using hK
  · have e : A.done = true := by simpa using e
    have e' : A.ok = true := by simpa using e'
    simpa [e, e'] using hK
theorem doneA_spec (H : ActIs h f m A) (hK : K (.bool A.done) h) : CallsH Try.prog 37 [.pointer (some ⟨f, 0, none⟩)] h K := by
  apply F37.spec
  unfold F37.w F37.J0
  simp only [add_mk, Nat.zero_add]
  exact ldB_of (by rw [At.rd H]; rfl) hK
theorem cells_spec {k : Int} (h0 : 1 ≤ k) (h1 : k < 1000000) (hK : K (.int .i64 (3 * k)) h) : CallsH Try.prog 28 [.int .i64 k] h K := by
  apply F28.spec
  unfold F28.w F28.J0
  rw [decide_eq_false (by omega), bcase_false, wrap_i64 (by omega) (by omega)]
  exact hK
theorem cells_none {k : Int} (h0 : k < 1) (hK : K (.int .i64 0) h) : CallsH Try.prog 28 [.int .i64 k] h K := by
  apply F28.spec
  unfold F28.w F28.J0
  rw [decide_eq_true h0, bcase_true]
  exact hK
theorem cacnew_spec (M : MemIs h m mc cs ops fails) (hn : 1 ≤ n) (hn2 : n ≤ 1024) (hb : base + 3 * n ≤ cs.length) (hc : cs.length < 1000000)
    (hK : ∀ c h', CacIs h' c m base n → Only [] h h' → h.size ≤ c → K (.tuple #[.pointer (some ⟨c, 0, none⟩), .int .i64 0]) h') :
    CallsH Try.prog 29 [.pointer (some ⟨m, 0, none⟩), .int .i64 (base : Int), .int .i64 (n : Int)] h K := by
  apply F29.spec
  unfold F29.w F29.J0
  rw [decide_eq_false (by omega), bcase_false, decide_eq_false (by omega), bcase_false, decide_eq_false (by omega), bcase_false]
  refine len_spec M (ldI_of rfl ?_)
  rw [decide_eq_false (by omega), bcase_false]
  refine cells_spec (by omega) (by omega) (ldI_of rfl (len_spec M (ldI_of rfl ?_)))
  rw [wrap_i64 (by omega) (by omega), decide_eq_false (by omega), bcase_false]
  exact newK_at fun h1 A1 O1 z1 => hK h.size h1 A1 O1 (Nat.le_refl _)
theorem cacnew_out (M : MemIs h m mc cs ops fails) (hn : n ≤ 1024) (hbl : base ≤ cs.length) (hb : n = 0 ∨ cs.length < base + 3 * n) (hc : cs.length < 1000000)
    (hK : K (.tuple #[.pointer none, .int .i64 61]) h) :
    CallsH Try.prog 29 [.pointer (some ⟨m, 0, none⟩), .int .i64 (base : Int), .int .i64 (n : Int)] h K := by
  apply F29.spec
  unfold F29.w F29.J0
  rw [decide_eq_false (by omega), bcase_false]
  refine bcase_of (fun _ => hK) fun e => ?_
  have hn1 : 1 ≤ n := by have := of_decide_eq_false e; omega
  rw [decide_eq_false (by omega), bcase_false]
  refine len_spec M (ldI_of rfl ?_)
  rw [decide_eq_false (by omega), bcase_false]
  refine cells_spec (by omega) (by omega) (ldI_of rfl (len_spec M (ldI_of rfl ?_)))
  rw [wrap_i64 (by omega) (by omega), decide_eq_true (by omega), bcase_true]
  exact hK
end
end Go.Proofs.Ytbjdjgdbkfjglaa.Ev
