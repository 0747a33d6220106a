/- THE DEQUE's WORLD of a law: an owner, three thieves, what was put and took; one step of one of them. Conditions: none. -/
import Derived.Test.YtipckkeaoncjiaaDeqX
import Derived.Test.YtipckkeaoncjiaaDeqL4
import Derived.Test.YtipckkeaoncjiaaEvM
import Derived.Test.YtipckkeaoncjiaaT8F
namespace Go.Proofs.Ytipckkeaoncjiaa.Ev
open Go

def cellsW (m d : Nat) (ov : Value) (pu : Int) (tv : Nat → Value) (st : Nat → Nat) (tk pt : Value) : List Value :=
  [.pointer (some ⟨m, 0, none⟩), .pointer (some ⟨d, 0, none⟩), ov, .int .u64 pu, tv 0, tv 1, tv 2, .int .i64 (st 0 : Int), .int .i64 (st 1 : Int), .int .i64 (st 2 : Int), .int .i64 (st 3 : Int), tk, pt, .bool true]
theorem cellsW_len (m d : Nat) (ov : Value) (pu : Int) (tv : Nat → Value) (st : Nat → Nat) (tk pt : Value) : (cellsW m d ov pu tv st tk pt).length = 14 := rfl
theorem cellsW_th {m d : Nat} {ov : Value} {pu : Int} {tv : Nat → Value} {st : Nat → Nat} {tk pt : Value} {i : Nat} (hi : i < 3) (v : Value) : (cellsW m d ov pu tv st tk pt).set (4 + i) v = cellsW m d ov pu (fset tv i v) st tk pt := by
  match i, hi with
  | 0, _ => rfl
  | 1, _ => rfl
  | 2, _ => rfl
theorem cellsW_st {m d : Nat} {ov : Value} {pu : Int} {tv : Nat → Value} {st : Nat → Nat} {tk pt : Value} {i : Nat} (hi : i < 4) (k : Nat) : (cellsW m d ov pu tv st tk pt).set (7 + i) (.int .i64 (k : Int)) = cellsW m d ov pu tv (fset st i k) tk pt := by
  match i, hi with
  | 0, _ => rfl
  | 1, _ => rfl
  | 2, _ => rfl
  | 3, _ => rfl
theorem cellsW_get_th {m d : Nat} {ov : Value} {pu : Int} {tv : Nat → Value} {st : Nat → Nat} {tk pt : Value} {i : Nat} (hi : i < 3) : (cellsW m d ov pu tv st tk pt)[4 + i]? = some (tv i) := by
  match i, hi with
  | 0, _ => rfl
  | 1, _ => rfl
  | 2, _ => rfl
theorem cellsW_get_st {m d : Nat} {ov : Value} {pu : Int} {tv : Nat → Value} {st : Nat → Nat} {tk pt : Value} {i : Nat} (hi : i < 4) : (cellsW m d ov pu tv st tk pt)[7 + i]? = some (.int .i64 (st i : Int)) := by
  match i, hi with
  | 0, _ => rfl
  | 1, _ => rfl
  | 2, _ => rfl
  | 3, _ => rfl

section
variable {h : Heap} {w f d bx by_ m mc n : Nat} {cs : List Int} {ops fails : Int} {K : Value → Heap → Prop} {A : Dc}

theorem step47 {who : Nat} {ov tk pt : Value} {pu : Int} {tv : Nat → Value} {st : Nat → Nat} (Wc : At h w (cellsW m d ov pu tv st tk pt)) (W : DW h d m mc 0 n cs ops fails) (H : DcIs h f d bx by_ A) (hd : A.done = false)
    (d1 : f ≠ d) (d2 : f ≠ m) (d3 : f ≠ mc) (w1 : w ≠ d) (w2 : w ≠ m) (w3 : w ≠ mc) (w4 : w ≠ f) (w5 : w ≠ bx) (w6 : w ≠ by_)
    (hph : A.ph ≤ 14) (hp1 : A.ph = 2 ∨ A.ph = 7 → 0 ≤ A.b) (hp2 : A.ph = 13 → 0 ≤ A.t) (hw : who < 4) (hs : st who ≤ 15)
    (hK : ∀ h' fails', DcIs h' f d bx by_ (stepD 0 n cs A).1 → DW h' d m mc 0 n (stepD 0 n cs A).2 (up ops) fails' → At h' w (cellsW m d ov pu tv (fset st who (if (stepD 0 n cs A).1.done then 0 else st who + 1)) tk pt) → Only [w, f, m, mc] h h' → K (.bool (stepD 0 n cs A).1.done) h') :
    CallsH Try.prog 47 [.pointer (some ⟨w, 0, none⟩), .pointer (some ⟨f, 0, none⟩), .int .i64 (who : Int)] h K := by
  apply F47.spec
  unfold F47.w F47.J0
  simp only [add_mk, Nat.zero_add, Nat.add_zero, Int.toNat_natCast, Nat.mul_one]
  refine ldP_of (by rw [Wc.rd]; rfl) (ops_spec W.mem (ldI_of rfl (stepD_dw W H d1 d2 d3 hph hp1 hp2 fun h1 f1 H1 W1 O1 => ldB_of rfl ?_)))
  rw [hd, if_neg (by simp)] at W1
  have A1 := Wc.only O1 (by simp [w2, w3, w4])
  refine ⟨by omega, by omega, ldI_of (n := (st who : Int)) (by rw [A1.rd, cellsW_get_st hw]) ⟨by omega, by omega, ?_⟩⟩
  rw [show IntKind.wrap .i64 ((st who : Int) + 1) = ((st who + 1 : Nat) : Int) by rw [wrap_i64 (by omega) (by omega)]; omega]
  refine stK_at A1 (by rw [cellsW_len]; omega) rfl fun h2 A2 O2 z2 => ?_
  rw [cellsW_st hw] at A2
  have H2 := H1.only O2 (by simp [w4.symm]) (by simp [w5.symm]) (by simp [w6.symm])
  have W2 := W1.only O2 (by simp [w1.symm]) (by simp [w2.symm]) (by simp [w3.symm])
  have P2 : Only [w, f, m, mc] h h2 := (O1.mono (T := [w, f, m, mc]) (by simp +contextual)).trans O2 (by simp)
  refine doneD_spec H2 (ldB_of rfl ?_)
  rw [beq_self_eq_true, Bool.not_true, bcase_false]
  refine ldP_of (by rw [A2.rd]; rfl) (ops_spec W2.mem (ldI_of rfl ?_))
  rw [show decide (up ops > IntKind.wrap .i64 (ops + 1)) = false from decide_eq_false (by unfold up; omega), bcase_false]
  refine ⟨by omega, by omega, ldI_of (n := ((st who + 1 : Nat) : Int)) (by rw [A2.rd, cellsW_get_st hw, fset_same]) ?_⟩
  rw [decide_eq_false (by omega), bcase_false]
  unfold F47.wk6 F47.Jk6
  simp only [add_mk, Nat.zero_add, Nat.add_zero, Int.toNat_natCast, Nat.mul_one]
  cases hdn : (stepD 0 n cs A).1.done with
  | false =>
    rw [bcase_false]
    rw [hdn] at hK
    exact hK h2 f1 H2 W2 A2 P2
  | true =>
    rw [bcase_true]
    rw [hdn] at hK
    refine ⟨by omega, by omega, stK_at A2 (by rw [cellsW_len]; omega) rfl fun h3 A3 O3 z3 => ?_⟩
    have A3 : At h3 w ((cellsW m d ov pu tv (fset st who (st who + 1)) tk pt).set (7 + who) (.int .i64 ((0 : Nat) : Int))) := A3
    rw [cellsW_st hw] at A3
    refine hK h3 f1 (H2.only O3 (by simp [w4.symm]) (by simp [w5.symm]) (by simp [w6.symm])) (W2.only O3 (by simp [w1.symm]) (by simp [w2.symm]) (by simp [w3.symm])) ?_ (P2.trans O3 (by simp))
    rw [show fset st who (if true = true then 0 else st who + 1) = fset (fset st who (st who + 1)) who 0 by
      funext j
      simp only [fset, if_true]
      split <;> rfl]
    exact A3
end

/-- what goes on besides the heap -/
structure Gh where
  cs : List Int
  ops : Int
  fails : Int
  T : Nat
  E : Nat
  q : List Int
  hand : List Int
  o : Option Dc
  th : Nat → Option Dc
  took : List Int
  P : Nat
  push : Int
  st : Nat → Nat
  fo : Nat × Nat × Nat
  ft : Nat → Nat × Nat × Nat
  tag : Nat → Nat
  tp : Option Addr
  tc : Nat
  pp : Option Addr
  pc : Nat
  k : Nat

def ActAt (lo : Nat) (h : Heap) (tag : Nat → Nat) (k d : Nat) (f : Nat × Nat × Nat) (A : Dc) : Prop :=
  DcIs h f.1 d f.2.1 f.2.2 A ∧ ∀ b ∈ [f.1, f.2.1, f.2.2], tag b = k ∧ lo ≤ b ∧ b < h.size
theorem ActAt.only {lo : Nat} {h h' : Heap} {tag : Nat → Nat} {k d : Nat} {f : Nat × Nat × Nat} {A : Dc} {S : List Nat} (H : ActAt lo h tag k d f A) (O : Only S h h') (hS : ∀ b ∈ S, tag b ≠ k) : ActAt lo h' tag k d f A := by
  have ne : ∀ b ∈ [f.1, f.2.1, f.2.2], b ∉ S := fun b hb hs => hS b hs (H.2 b hb).1
  exact ⟨H.1.only O (ne _ (by simp)) (ne _ (by simp)) (ne _ (by simp)), fun b hb => ⟨(H.2 b hb).1, (H.2 b hb).2.1, Nat.lt_of_lt_of_le (H.2 b hb).2.2 O.size⟩⟩
def tagUp (tag : Nat → Nat) (s k : Nat) : Nat → Nat := fun b => if b < s then tag b else k
theorem tagUp_old {tag : Nat → Nat} {s k b : Nat} (h : b < s) : tagUp tag s k b = tag b := if_pos h
theorem tagUp_new {tag : Nat → Nat} {s k b : Nat} (h : s ≤ b) : tagUp tag s k b = k := if_neg (by omega)
theorem ActAt.up {lo : Nat} {h h' : Heap} {tag : Nat → Nat} {k d : Nat} {f : Nat × Nat × Nat} {A : Dc} (H : ActAt lo h tag k d f A) (O : Only [] h h') (j : Nat) : ActAt lo h' (tagUp tag h.size j) k d f A := by
  have := H.only O (by simp)
  exact ⟨this.1, fun b hb => ⟨by rw [tagUp_old (H.2 b hb).2.2]; exact (H.2 b hb).1, (this.2 b hb).2⟩⟩
def WinAt (lo : Nat) (h : Heap) (tag : Nat → Nat) (k : Nat) (p : Option Addr) (l c : Nat) (vs : List Int) : Prop :=
  Win h lo p l c (vs.map (.int .u64)) ∧ ∀ b ∈ OwnB p, tag b = k
theorem WinAt.only {lo : Nat} {h h' : Heap} {tag : Nat → Nat} {k : Nat} {p : Option Addr} {l c : Nat} {vs : List Int} {S : List Nat} (H : WinAt lo h tag k p l c vs) (O : Only S h h') (hS : ∀ b ∈ S, tag b ≠ k) : WinAt lo h' tag k p l c vs :=
  ⟨H.1.only O fun b hb hs => hS b hs (H.2 b hb), H.2⟩
theorem WinAt.up {lo : Nat} {h h' : Heap} {tag : Nat → Nat} {k : Nat} {p : Option Addr} {l c : Nat} {vs : List Int} (H : WinAt lo h tag k p l c vs) (O : Only [] h h') (j : Nat) : WinAt lo h' (tagUp tag h.size j) k p l c vs :=
  ⟨H.1.only O (by simp), fun b hb => by rw [tagUp_old (H.1.lt b hb).2]; exact H.2 b hb⟩

def ovD (o : Option Dc) (f : Nat) : Value := match o with | some _ => .pointer (some ⟨f, 0, none⟩) | none => .pointer none

structure Wd (h0 h : Heap) (w d m mc n : Nat) (g : Gh) : Prop where
  dw : DW h d m mc 0 n g.cs g.ops g.fails
  sys : Sys 0 n g.cs g.T g.E g.q g.hand g.o g.th
  at_ : At h w (cellsW m d (ovD g.o g.fo.1) g.push (fun i => ovD (g.th i) (g.ft i).1) g.st (.slice g.tp g.took.length g.tc) (.slice g.pp g.P g.pc))
  own : ∀ A, g.o = some A → ActAt h0.size h g.tag 10 d g.fo A ∧ g.st 0 ≤ A.ph ∧ (A.ph ≤ 3 → A.v = ((g.P + 1 : Nat) : Int) ∧ g.push = ((g.P + 1 : Nat) : Int)) ∧ (4 ≤ A.ph → g.push = 0)
  thA : ∀ i, i < 3 → ∀ A, g.th i = some A → ActAt h0.size h g.tag (20 + i) d (g.ft i) A ∧ g.st (i + 1) ≤ A.ph
  s0 : g.o = none → g.st 0 = 0
  si : ∀ i, i < 3 → g.th i = none → g.st (i + 1) = 0
  took : WinAt h0.size h g.tag 4 g.tp g.took.length g.tc g.took
  put : WinAt h0.size h g.tag 5 g.pp g.P g.pc (valsD 1 g.P)
  perm : List.Perm (g.took ++ (g.q ++ g.hand)) (valsD 1 g.P)
  sort : List.Pairwise (· < ·) (g.q ++ g.hand)
  tg : g.tag d = 1 ∧ g.tag m = 2 ∧ g.tag mc = 2 ∧ g.tag w = 3
  lo : h0.size ≤ d ∧ h0.size ≤ m ∧ h0.size ≤ mc ∧ h0.size ≤ w
  few : g.E ≤ g.k ∧ g.P ≤ g.k
  base : Only [] h0 h
end Go.Proofs.Ytipckkeaoncjiaa.Ev
