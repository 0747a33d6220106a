/- THE DEQUE (package deque): what each of its acts' steps does to two counts and a ring of cells, seen from the heap. Conditions: the deque and the act stand (DqIs, DcIs). -/
import Derived.Test.YtipckkeaoncjiaaMemC3
import Derived.Test.YtipckkeaoncjiaaDeqA40
import Derived.Test.YtipckkeaoncjiaaDeqA41
import Derived.Test.YtipckkeaoncjiaaDeqA42
import Derived.Test.YtipckkeaoncjiaaEvK
namespace Go.Proofs.Ytipckkeaoncjiaa.Ev
open Go

/-- block d is a deque over the Mem m -/
def DqIs (h : Heap) (d m base n : Nat) : Prop := At h d [.pointer (some ⟨m, 0, none⟩), .int .i64 (base : Int), .int .i64 (n : Int)]
theorem DqIs.only {S : List Nat} {h h' : Heap} {t m base n : Nat} (H : DqIs h t m base n) (O : Only S h h') (ht : t ∉ S) : DqIs h' t m base n := At.only H O ht
/-- an act: a push's phases are 0 to 3, a pop's 4 to 10, a steal's 11 to 14 -/
structure Dc where
  v : Int
  t : Int
  b : Int
  ph : Nat
  done : Bool
  ok : Bool
def phd : Nat → Nat
  | 0 => 40
  | 1 => 58
  | 2 => 70
  | 3 => 88
  | 4 => 41
  | 5 => 59
  | 6 => 72
  | 7 => 89
  | 8 => 99
  | 9 => 100
  | 10 => 90
  | 11 => 42
  | 12 => 60
  | 13 => 73
  | _ => 91
theorem go40 : xget X 40 = some Ext.go := by kernel_rfl
theorem go58 : xget X 58 = some Ext.go := by kernel_rfl
theorem go70 : xget X 70 = some Ext.go := by kernel_rfl
theorem go88 : xget X 88 = some Ext.go := by kernel_rfl
theorem go41 : xget X 41 = some Ext.go := by kernel_rfl
theorem go59 : xget X 59 = some Ext.go := by kernel_rfl
theorem go72 : xget X 72 = some Ext.go := by kernel_rfl
theorem go89 : xget X 89 = some Ext.go := by kernel_rfl
theorem go99 : xget X 99 = some Ext.go := by kernel_rfl
theorem go100 : xget X 100 = some Ext.go := by kernel_rfl
theorem go90 : xget X 90 = some Ext.go := by kernel_rfl
theorem go42 : xget X 42 = some Ext.go := by kernel_rfl
theorem go60 : xget X 60 = some Ext.go := by kernel_rfl
theorem go73 : xget X 73 = some Ext.go := by kernel_rfl
theorem go91 : xget X 91 = some Ext.go := by kernel_rfl
theorem go57 : xget X 57 = some Ext.go := by kernel_rfl
def isFirst (ph : Nat) : Bool := ph == 0 || ph == 4 || ph == 11
def nxd (f bx by_ ph : Nat) : Value :=
  if isFirst ph then .func (.func 57) #[] #[.pointer (some ⟨bx, 0, none⟩), .pointer (some ⟨by_, 0, none⟩)] else .func (.func (phd ph)) #[.pointer (some ⟨f, 0, none⟩)] #[]
def cellsD (f d bx by_ : Nat) (A : Dc) : List Value :=
  [.pointer (some ⟨d, 0, none⟩), .int .u64 A.v, .int .i64 A.t, .int .i64 A.b, nxd f bx by_ A.ph, .bool A.done, .bool A.ok]
structure DcIs (h : Heap) (f d bx by_ : Nat) (A : Dc) : Prop where
  act : At h f (cellsD f d bx by_ A)
  fn : isFirst A.ph = true → At h bx [.func (.func (phd A.ph)) #[] #[]]
  me : isFirst A.ph = true → At h by_ [.pointer (some ⟨f, 0, none⟩)]
theorem DcIs.only {S : List Nat} {h h' : Heap} {f d bx by_ : Nat} {A : Dc} (H : DcIs h f d bx by_ A) (O : Only S h h') (h1 : f ∉ S) (h2 : bx ∉ S) (h3 : by_ ∉ S) : DcIs h' f d bx by_ A :=
  ⟨H.act.only O h1, fun e => (H.fn e).only O h2, fun e => (H.me e).only O h3⟩

section
variable {h : Heap} {f d m mc base n : Nat} {cs : List Int} {ops fails : Int} {K : Value → Heap → Prop}

theorem load43 {c : Int} (Q : DqIs h d m base n) (M : MemIs h m mc cs ops fails) (hb : base < 1000000000) (hc0 : 0 ≤ c) (hc1 : c ≤ 1) (hl : base + 2 ≤ cs.length)
    (hK : ∀ h', MemIs h' m mc cs (up ops) fails → Only [m, mc] h h' → K (.int .i64 (IntKind.wrap .i64 (cs.getD (base + c.toNat) 0))) h') :
    CallsH Try.prog 43 [.pointer (some ⟨d, 0, none⟩), .int .i64 c] h K := by
  apply F43.spec
  unfold F43.w F43.J0
  simp only [add_mk, Nat.zero_add]
  refine ldP_of (by rw [At.rd Q]; rfl) (ldI_of (n := (base : Int)) (by rw [At.rd Q]; rfl) ?_)
  rw [show IntKind.wrap .i64 ((base : Int) + c) = ((base + c.toNat : Nat) : Int) by rw [wrap_i64 (by omega) (by omega)]; omega]
  refine load_in M (by omega) (by omega) fun h1 M1 O1 => ldI_of rfl ?_
  rw [Int.toNat_natCast]
  exact hK h1 M1 O1
/-- the cell of a place -/
def slotOf (base n : Nat) (x : Int) : Nat := base + 2 + (x.tmod n).toNat
theorem slotOf_lt {base n : Nat} {x : Int} (hn : 1 ≤ n) (hx : 0 ≤ x) : slotOf base n x < base + 2 + n := by
  unfold slotOf
  rw [Int.tmod_eq_emod_of_nonneg hx]
  have := Int.emod_lt_of_pos x (by omega : (0 : Int) < n)
  omega
theorem value87 {x : Int} (Q : DqIs h d m base n) (hb : base < 1000000000) (hn : 1 ≤ n) (hn2 : n < 1000000000) (hx : 0 ≤ x) (hK : K (.int .i64 (slotOf base n x : Int)) h) :
    CallsH Try.prog 87 [.pointer (some ⟨d, 0, none⟩), .int .i64 x] h K := by
  apply F87.spec
  unfold F87.w F87.J0
  simp only [add_mk, Nat.zero_add]
  refine ldI_of (n := (base : Int)) (by rw [At.rd Q]; rfl) (ldI_of (n := (n : Int)) (by rw [At.rd Q]; rfl) ⟨by omega, ?_⟩)
  have e : x.tmod n = (((x.tmod n).toNat : Nat) : Int) := by
    rw [Int.tmod_eq_emod_of_nonneg hx]
    have := Int.emod_nonneg x (by omega : (n : Int) ≠ 0)
    omega
  have hlt := slotOf_lt (base := base) hn hx
  unfold slotOf at hK hlt
  rw [e, wrap_i64 (n := (base : Int) + 2) (by omega) (by omega), wrap_i64 (by omega) (by omega)]
  rw [show ((base : Int) + 2 + ((x.tmod n).toNat : Int)) = ((base + 2 + (x.tmod n).toNat : Nat) : Int) by simp]
  exact hK
theorem ends71 {c : List Value} {ok : Bool} (H : At h f c) (hl : c.length = 7) (hK : ∀ h', At h' f ((c.set 5 (.bool true)).set 6 (.bool ok)) → Only [f] h h' → K (.tuple #[]) h') :
    CallsH Try.prog 71 [.pointer (some ⟨f, 0, none⟩), .bool ok] h K := by
  apply F71.spec
  unfold F71.w F71.J0
  simp only [add_mk, Nat.zero_add, Nat.add_zero]
  refine stK_at H (by omega) rfl fun h1 A1 O1 _ => stK_at A1 (by simp; omega) rfl fun h2 A2 O2 _ => ?_
  exact hK h2 A2 (O1.trans O2 (by simp))
end

/-- one step of an act -/
def stepD (base n : Nat) (cs : List Int) (A : Dc) : Dc × List Int :=
  if A.done then (A, cs) else
  match A.ph with
  | 0 => ({ A with b := IntKind.wrap .i64 (cs.getD (base + 1) 0), ph := 1 }, cs)
  | 1 => ({ A with t := IntKind.wrap .i64 (cs.getD base 0), ph := 2, done := decide (IntKind.wrap .i64 (A.b - IntKind.wrap .i64 (cs.getD base 0)) ≥ (n : Int)), ok := if decide (IntKind.wrap .i64 (A.b - IntKind.wrap .i64 (cs.getD base 0)) ≥ (n : Int)) then false else A.ok }, cs)
  | 2 => ({ A with ph := 3 }, cs.set (slotOf base n A.b) A.v)
  | 3 => ({ A with done := true, ok := true }, cs.set (base + 1) (IntKind.wrap .u64 (IntKind.wrap .i64 (A.b + 1))))
  | 4 => ({ A with b := IntKind.wrap .i64 (IntKind.wrap .i64 (cs.getD (base + 1) 0) - 1), ph := 5 }, cs)
  | 5 => ({ A with ph := 6 }, cs.set (base + 1) (IntKind.wrap .u64 A.b))
  | 6 => ({ A with t := IntKind.wrap .i64 (cs.getD base 0), ph := if decide (IntKind.wrap .i64 (cs.getD base 0) > A.b) then 10 else 7 }, cs)
  | 7 => if decide (A.t < A.b) then ({ A with v := cs.getD (slotOf base n A.b) 0, done := true, ok := true }, cs) else ({ A with v := cs.getD (slotOf base n A.b) 0, ph := 8 }, cs)
  | 8 => if cs.getD base 0 = IntKind.wrap .u64 A.t then ({ A with ok := true, ph := 9 }, cs.set base (IntKind.wrap .u64 (IntKind.wrap .i64 (A.t + 1)))) else ({ A with ok := false, ph := 9 }, cs)
  | 9 => ({ A with done := true }, cs.set (base + 1) (IntKind.wrap .u64 (IntKind.wrap .i64 (A.b + 1))))
  | 10 => ({ A with done := true, ok := false }, cs.set (base + 1) (IntKind.wrap .u64 (IntKind.wrap .i64 (A.b + 1))))
  | 11 => ({ A with t := IntKind.wrap .i64 (cs.getD base 0), ph := 12 }, cs)
  | 12 => ({ A with b := IntKind.wrap .i64 (cs.getD (base + 1) 0), ph := 13, done := decide (A.t ≥ IntKind.wrap .i64 (cs.getD (base + 1) 0)), ok := if decide (A.t ≥ IntKind.wrap .i64 (cs.getD (base + 1) 0)) then false else A.ok }, cs)
  | 13 => ({ A with v := cs.getD (slotOf base n A.t) 0, ph := 14 }, cs)
  | _ => if cs.getD base 0 = IntKind.wrap .u64 A.t then ({ A with done := true, ok := true }, cs.set base (IntKind.wrap .u64 (IntKind.wrap .i64 (A.t + 1)))) else ({ A with done := true, ok := false }, cs)
end Go.Proofs.Ytipckkeaoncjiaa.Ev
