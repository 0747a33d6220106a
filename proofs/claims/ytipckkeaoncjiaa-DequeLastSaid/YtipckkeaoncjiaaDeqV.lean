/- THE DEQUE, whole: acts begin, what they got, how many values there are; over one bundle (DW). Conditions: the deque stands. -/
import Derived.Test.YtipckkeaoncjiaaDeqU
namespace Go.Proofs.Ytipckkeaoncjiaa.Ev
open Go

/-- a deque over its cells -/
structure DW (h : Heap) (d m mc base n : Nat) (cs : List Int) (ops fails : Int) : Prop where
  deq : DqIs h d m base n
  mem : MemIs h m mc cs ops fails
  d4 : d ≠ m
  d5 : d ≠ mc
  hn : 1 ≤ n
  hn2 : n ≤ 256
  hb : base < 100000
  hl : base + 2 + n ≤ cs.length
theorem DW.only {h h' : Heap} {d m mc base n : Nat} {cs : List Int} {ops fails : Int} {S : List Nat} (W : DW h d m mc base n cs ops fails) (O : Only S h h') (h1 : d ∉ S) (h2 : m ∉ S) (h3 : mc ∉ S) : DW h' d m mc base n cs ops fails :=
  ⟨W.deq.only O h1, W.mem.only O h2 h3, W.d4, W.d5, W.hn, W.hn2, W.hb, W.hl⟩
theorem DW.lt {h : Heap} {d m mc base n : Nat} {cs : List Int} {ops fails : Int} (W : DW h d m mc base n cs ops fails) : d < h.size ∧ m < h.size ∧ mc < h.size := ⟨At.lt W.deq, W.mem.head.lt, W.mem.body.lt⟩

section
variable {h : Heap} {f d bx by_ m mc base n : Nat} {cs : List Int} {ops fails : Int} {K : Value → Heap → Prop} {A : Dc}

theorem stepD_dw (W : DW h d m mc base n cs ops fails) (H : DcIs h f d bx by_ A) (d1 : f ≠ d) (d2 : f ≠ m) (d3 : f ≠ mc) (hph : A.ph ≤ 14) (hp1 : A.ph = 2 ∨ A.ph = 7 → 0 ≤ A.b) (hp2 : A.ph = 13 → 0 ≤ A.t)
    (hK : ∀ h' fails', DcIs h' f d bx by_ (stepD base n cs A).1 → DW h' d m mc base n (stepD base n cs A).2 (if A.done then ops else up ops) fails' → Only [f, m, mc] h h' → K (.bool (stepD base n cs A).1.done) h') :
    CallsH Try.prog 22 [.pointer (some ⟨f, 0, none⟩)] h K :=
  stepD_spec W.deq W.mem H (Nat.lt_of_lt_of_le W.hb (by decide)) W.hn (Nat.lt_of_le_of_lt W.hn2 (by decide)) W.hl d1 d2 d3 W.d4 W.d5 hph hp1 hp2 fun h' fails' a b O =>
    hK h' fails' a ⟨W.deq.only O (by simp [d1.symm, W.d4, W.d5]), b, W.d4, W.d5, W.hn, W.hn2, W.hb, by rw [stepD_len]; exact W.hl⟩ O

theorem act40 {v : Int} (hK : ∀ f bx by_ h', DcIs h' f d bx by_ ⟨v, 0, 0, 0, false, false⟩ → Only [] h h' → h.size ≤ f → h.size ≤ bx → h.size ≤ by_ → f < h'.size → bx < h'.size → by_ < h'.size → f ≠ bx → f ≠ by_ → bx ≠ by_ → K (.pointer (some ⟨f, 0, none⟩)) h') :
    CallsH Try.prog 39 [.pointer (some ⟨d, 0, none⟩), .int .u64 v, .func (.func 40) #[] #[]] h K := by
  apply A40.F39.spec
  unfold A40.F39.w A40.F39.J0
  refine newK_at fun h1 A1 O1 z1 => newK_at fun h2 A2 O2 z2 => newK_at fun h3 A3 O3 z3 => ?_
  simp only [add_mk, Nat.zero_add]
  refine stK_at A3 (by simp) rfl fun h4 A4 O4 z4 => ldP_of (by rw [A4.rd]; rfl) ?_
  simp only [ptrK_some, add_mk, Nat.zero_add, Nat.add_zero]
  have B4 := ((A2.only O3 (by simp)).only O4 (by simp; omega))
  have C4 := (((A1.only O2 (by simp)).only O3 (by simp)).only O4 (by simp; omega))
  refine stK_at B4 (by simp) rfl fun h5 A5 O5 z5 => ldP_of (n := some ⟨h1.size, 0, none⟩) (by rw [(A4.only O5 (by simp; omega)).rd]; rfl) ?_
  have P5 : Only [] h h5 := (((O1.trans O2 (by simp)).trans O3 (by simp)).trans O4 fun b hb hl => absurd (show b = h2.size by simpa using hb) (by omega)).trans O5 fun b hb hl => absurd (show b = h1.size by simpa using hb) (by omega)
  refine hK h1.size h.size h2.size h5 ⟨A5, fun _ => C4.only O5 (by simp; omega), fun _ => A4.only O5 (by simp; omega)⟩ P5 (by omega) (by omega) (by omega) (by omega) (by omega) (by omega) (by omega) (by omega) (by omega)
theorem act41 {v : Int} (hK : ∀ f bx by_ h', DcIs h' f d bx by_ ⟨v, 0, 0, 4, false, false⟩ → Only [] h h' → h.size ≤ f → h.size ≤ bx → h.size ≤ by_ → f < h'.size → bx < h'.size → by_ < h'.size → f ≠ bx → f ≠ by_ → bx ≠ by_ → K (.pointer (some ⟨f, 0, none⟩)) h') :
    CallsH Try.prog 39 [.pointer (some ⟨d, 0, none⟩), .int .u64 v, .func (.func 41) #[] #[]] h K := by
  apply A41.F39.spec
  unfold A41.F39.w A41.F39.J0
  refine newK_at fun h1 A1 O1 z1 => newK_at fun h2 A2 O2 z2 => newK_at fun h3 A3 O3 z3 => ?_
  simp only [add_mk, Nat.zero_add]
  refine stK_at A3 (by simp) rfl fun h4 A4 O4 z4 => ldP_of (by rw [A4.rd]; rfl) ?_
  simp only [ptrK_some, add_mk, Nat.zero_add, Nat.add_zero]
  have B4 := ((A2.only O3 (by simp)).only O4 (by simp; omega))
  have C4 := (((A1.only O2 (by simp)).only O3 (by simp)).only O4 (by simp; omega))
  refine stK_at B4 (by simp) rfl fun h5 A5 O5 z5 => ldP_of (n := some ⟨h1.size, 0, none⟩) (by rw [(A4.only O5 (by simp; omega)).rd]; rfl) ?_
  have P5 : Only [] h h5 := (((O1.trans O2 (by simp)).trans O3 (by simp)).trans O4 fun b hb hl => absurd (show b = h2.size by simpa using hb) (by omega)).trans O5 fun b hb hl => absurd (show b = h1.size by simpa using hb) (by omega)
  refine hK h1.size h.size h2.size h5 ⟨A5, fun _ => C4.only O5 (by simp; omega), fun _ => A4.only O5 (by simp; omega)⟩ P5 (by omega) (by omega) (by omega) (by omega) (by omega) (by omega) (by omega) (by omega) (by omega)
theorem act42 {v : Int} (hK : ∀ f bx by_ h', DcIs h' f d bx by_ ⟨v, 0, 0, 11, false, false⟩ → Only [] h h' → h.size ≤ f → h.size ≤ bx → h.size ≤ by_ → f < h'.size → bx < h'.size → by_ < h'.size → f ≠ bx → f ≠ by_ → bx ≠ by_ → K (.pointer (some ⟨f, 0, none⟩)) h') :
    CallsH Try.prog 39 [.pointer (some ⟨d, 0, none⟩), .int .u64 v, .func (.func 42) #[] #[]] h K := by
  apply A42.F39.spec
  unfold A42.F39.w A42.F39.J0
  refine newK_at fun h1 A1 O1 z1 => newK_at fun h2 A2 O2 z2 => newK_at fun h3 A3 O3 z3 => ?_
  simp only [add_mk, Nat.zero_add]
  refine stK_at A3 (by simp) rfl fun h4 A4 O4 z4 => ldP_of (by rw [A4.rd]; rfl) ?_
  simp only [ptrK_some, add_mk, Nat.zero_add, Nat.add_zero]
  have B4 := ((A2.only O3 (by simp)).only O4 (by simp; omega))
  have C4 := (((A1.only O2 (by simp)).only O3 (by simp)).only O4 (by simp; omega))
  refine stK_at B4 (by simp) rfl fun h5 A5 O5 z5 => ldP_of (n := some ⟨h1.size, 0, none⟩) (by rw [(A4.only O5 (by simp; omega)).rd]; rfl) ?_
  have P5 : Only [] h h5 := (((O1.trans O2 (by simp)).trans O3 (by simp)).trans O4 fun b hb hl => absurd (show b = h2.size by simpa using hb) (by omega)).trans O5 fun b hb hl => absurd (show b = h1.size by simpa using hb) (by omega)
  refine hK h1.size h.size h2.size h5 ⟨A5, fun _ => C4.only O5 (by simp; omega), fun _ => A4.only O5 (by simp; omega)⟩ P5 (by omega) (by omega) (by omega) (by omega) (by omega) (by omega) (by omega) (by omega) (by omega)
theorem push_dw {v : Int} (hK : ∀ f bx by_ h', DcIs h' f d bx by_ ⟨v, 0, 0, 0, false, false⟩ → Only [] h h' → h.size ≤ f → h.size ≤ bx → h.size ≤ by_ → f < h'.size → bx < h'.size → by_ < h'.size → f ≠ bx → f ≠ by_ → bx ≠ by_ → K (.pointer (some ⟨f, 0, none⟩)) h') :
    CallsH Try.prog 16 [.pointer (some ⟨d, 0, none⟩), .int .u64 v] h K := by
  apply F16.spec
  unfold F16.w F16.J0
  exact act40 fun f bx by_ h' a b c e g i j k l m o => ldP_of rfl (hK f bx by_ h' a b c e g i j k l m o)
theorem pop_dw (hK : ∀ f bx by_ h', DcIs h' f d bx by_ ⟨0, 0, 0, 4, false, false⟩ → Only [] h h' → h.size ≤ f → h.size ≤ bx → h.size ≤ by_ → f < h'.size → bx < h'.size → by_ < h'.size → f ≠ bx → f ≠ by_ → bx ≠ by_ → K (.pointer (some ⟨f, 0, none⟩)) h') :
    CallsH Try.prog 17 [.pointer (some ⟨d, 0, none⟩)] h K := by
  apply F17.spec
  unfold F17.w F17.J0
  exact act41 fun f bx by_ h' a b c e g i j k l m o => ldP_of rfl (hK f bx by_ h' a b c e g i j k l m o)
theorem steal_dw (hK : ∀ f bx by_ h', DcIs h' f d bx by_ ⟨0, 0, 0, 11, false, false⟩ → Only [] h h' → h.size ≤ f → h.size ≤ bx → h.size ≤ by_ → f < h'.size → bx < h'.size → by_ < h'.size → f ≠ bx → f ≠ by_ → bx ≠ by_ → K (.pointer (some ⟨f, 0, none⟩)) h') :
    CallsH Try.prog 18 [.pointer (some ⟨d, 0, none⟩)] h K := by
  apply F18.spec
  unfold F18.w F18.J0
  exact act42 fun f bx by_ h' a b c e g i j k l m o => ldP_of rfl (hK f bx by_ h' a b c e g i j k l m o)
def gotDV (A : Dc) : Int := if A.done && A.ok then A.v else 0
def gotDB (A : Dc) : Bool := A.done && A.ok
theorem gotD_spec (H : DcIs h f d bx by_ A) (hK : K (.tuple #[.int .u64 (gotDV A), .bool (gotDB A)]) h) : CallsH Try.prog 23 [.pointer (some ⟨f, 0, none⟩)] h K := by
  apply F23.spec
  unfold F23.w F23.J0
  simp only [add_mk, Nat.zero_add]
  unfold gotDV gotDB at hK
  refine ldB_of (n := A.done) (by rw [H.act.rd]; rfl) (bcase_of (fun e => ?_) fun e => ldB_of (n := A.ok) (by rw [H.act.rd]; rfl) (bcase_of (fun e' => ?_) fun e' => ldI_of (n := A.v) (by rw [H.act.rd]; rfl) ?_))
  · have e : A.done = false := by simpa using e
    simpa [e] using hK
  · have e : A.done = true := by simpa using e
    have e' : A.ok = false := by simpa using e'
    simpa [e, e'] using hK
  · have e : A.done = true := by simpa using e
    have e' : A.ok = true := by simpa using e'
    simpa [e, e'] using hK
theorem doneD_spec (H : DcIs h f d bx by_ A) (hK : K (.bool A.done) h) : CallsH Try.prog 24 [.pointer (some ⟨f, 0, none⟩)] h K := by
  apply F24.spec
  unfold F24.w F24.J0
  simp only [add_mk, Nat.zero_add]
  exact ldB_of (by rw [H.act.rd]; rfl) hK
theorem lenD_dw (W : DW h d m mc base n cs ops fails)
    (hK : ∀ h' ops', DW h' d m mc base n cs ops' fails → Only [m, mc] h h' → K (.int .i64 (IntKind.wrap .i64 (IntKind.wrap .i64 (cs.getD (base + 1) 0) - IntKind.wrap .i64 (cs.getD base 0)))) h') : CallsH Try.prog 19 [.pointer (some ⟨d, 0, none⟩)] h K := by
  apply F19.spec
  unfold F19.w F19.J0
  have hl := W.hl
  have hb := W.hb
  refine load43 W.deq W.mem (by omega) (by decide) (by decide) (by omega) fun h1 M1 O1 => ldI_of rfl ?_
  have Q1 := W.deq.only O1 (by simp [W.d4, W.d5])
  refine load43 Q1 M1 (by omega) (by decide) (by decide) (by omega) fun h2 M2 O2 => ldI_of rfl ?_
  exact hK h2 _ ⟨Q1.only O2 (by simp [W.d4, W.d5]), M2, W.d4, W.d5, W.hn, W.hn2, W.hb, W.hl⟩ (O1.trans O2 fun b hb _ => hb)
theorem cellsD_spec {k : Int} (h0 : 1 ≤ k) (h1 : k < 1000000) (hK : K (.int .i64 (k + 2)) h) : CallsH Try.prog 13 [.int .i64 k] h K := by
  apply F13.spec
  unfold F13.w F13.J0
  rw [decide_eq_false (by omega), bcase_false, wrap_i64 (by omega) (by omega)]
  exact hK
theorem cellsD_none {k : Int} (h0 : k < 1) (hK : K (.int .i64 0) h) : CallsH Try.prog 13 [.int .i64 k] h K := by
  apply F13.spec
  unfold F13.w F13.J0
  rw [decide_eq_true h0, bcase_true]
  exact hK
theorem deqnew_spec (M : MemIs h m mc cs ops fails) (hn : 1 ≤ n) (hn2 : n ≤ 256) (hb : base + 2 + n ≤ cs.length) (hc : cs.length < 100000)
    (hK : ∀ c h', DqIs h' c m base n → Only [] h h' → h.size ≤ c → K (.tuple #[.pointer (some ⟨c, 0, none⟩), .int .i64 0]) h') :
    CallsH Try.prog 14 [.pointer (some ⟨m, 0, none⟩), .int .i64 (base : Int), .int .i64 (n : Int)] h K := by
  apply F14.spec
  unfold F14.w F14.J0
  rw [decide_eq_false (by omega), bcase_false, decide_eq_false (by omega), bcase_false, decide_eq_false (by omega), bcase_false]
  refine len_spec M (ldI_of rfl ?_)
  rw [decide_eq_false (by omega), bcase_false]
  refine cellsD_spec (by omega) (by omega) (ldI_of rfl (len_spec M (ldI_of rfl ?_)))
  rw [wrap_i64 (by omega) (by omega), decide_eq_false (by omega), bcase_false]
  exact newK_at fun h1 A1 O1 z1 => hK h.size h1 A1 O1 (Nat.le_refl _)
theorem deqnew_out (M : MemIs h m mc cs ops fails) (hn : n ≤ 256) (hbl : base ≤ cs.length) (hb : n = 0 ∨ cs.length < base + 2 + n) (hc : cs.length < 100000)
    (hK : K (.tuple #[.pointer none, .int .i64 61]) h) :
    CallsH Try.prog 14 [.pointer (some ⟨m, 0, none⟩), .int .i64 (base : Int), .int .i64 (n : Int)] h K := by
  apply F14.spec
  unfold F14.w F14.J0
  rw [decide_eq_false (by omega), bcase_false]
  refine bcase_of (fun _ => hK) fun e => ?_
  have hn1 : 1 ≤ n := by have := of_decide_eq_false e; omega
  rw [decide_eq_false (by omega), bcase_false]
  refine len_spec M (ldI_of rfl ?_)
  rw [decide_eq_false (by omega), bcase_false]
  refine cellsD_spec (by omega) (by omega) (ldI_of rfl (len_spec M (ldI_of rfl ?_)))
  rw [wrap_i64 (by omega) (by omega), decide_eq_true (by omega), bcase_true]
  exact hK
end
end Go.Proofs.Ytipckkeaoncjiaa.Ev
