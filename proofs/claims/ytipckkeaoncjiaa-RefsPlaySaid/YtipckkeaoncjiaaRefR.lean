/- RefsPlay: what a step does, seen from the heap (a count, a push, a pop). Conditions: the refs, the stacks and the row of counts stand (PS). -/
import Derived.Test.YtipckkeaoncjiaaRefQ
namespace Go.Proofs.Ytipckkeaoncjiaa.Ev
open Go

abbrev BK := (Option Addr) → Nat → Nat → (Option Addr) → Int → (Option Addr) → Nat → Nat → (Option Addr) → Nat → Nat → Int → Heap → Prop
theorem sb0 {h : Heap} {sb : Nat} {a b : Int} {x : Int} (A : At h sb [.int .i64 a, .int .i64 b, .int .u32 x]) : rd h (Addr.add ⟨sb, 0, none⟩ 0) = some (.int .i64 a) := by rw [add_mk]; exact A.rd 0
theorem sb1 {h : Heap} {sb : Nat} {a b : Int} {x : Int} (A : At h sb [.int .i64 a, .int .i64 b, .int .u32 x]) : rd h (Addr.add ⟨sb, 0, none⟩ 1) = some (.int .i64 b) := by rw [add_mk]; exact A.rd 1
theorem sb2 {h : Heap} {sb : Nat} {a b : Int} {x : Int} (A : At h sb [.int .i64 a, .int .i64 b, .int .u32 x]) : rd h (Addr.add ⟨sb, 0, none⟩ 2) = some (.int .u32 x) := by rw [add_mk]; exact A.rd 2
section
variable {h0 : Heap} {lo r M S B W : Nat} {h : Heap} {g : G10} {bk : BK} {p0 : Option Addr} {sl cap i sb a : Nat} {wh wo x : Int} {inn th : Bool}
theorem k46 (next : ∀ h g, PS h0 lo r M S B W h g → g.fm = g.f → g.Lm = g.L → g.N ≤ 4 * (i + 1) → g.MM.length ≤ i + 1 → bk p0 sl cap (some ⟨r, 0, none⟩) W g.q g.MM.length g.qc (some ⟨B, 0, none⟩) W W ((i + 1 : Nat) : Int) h)
    (H : PS h0 lo r M S B W h g) (AX : At h sb [.int .i64 wh, .int .i64 wo, .int .u32 x]) (ef : g.fm = g.f) (eL : g.Lm = g.L) (hN : g.N ≤ 4 * (i + 1)) (hM : g.MM.length ≤ i + 1) (hi : i < 100) (hW : W ≤ 4) (hin : inn = true ↔ 0 ≤ wo ∧ wo < W) :
    F10.wk46 bk p0 sl cap (some ⟨r, 0, none⟩) W g.q g.MM.length g.qc (some ⟨B, 0, none⟩) W W i ⟨sb, 0, none⟩ inn h (Lawful h0) := by
  unfold F10.wk46 F10.Jk46
  have el : (g.MM.map (·.1)).length = g.MM.length := by simp
  have Q := H.Q
  rw [MI.flat (f := g.fm) H.I.val, ← el, ef] at Q
  have ks := H.I.ks
  rw [ef] at ks
  have T := H.T
  rw [eL] at T
  have A : Al lo h r M S B W g.N g.f g.p g.c g.P g.C g.L g.q g.qc (g.MM.map (·.1)) := ⟨H.R, T, Q, ks.1, ks.2, by omega, hW, by omega⟩
  have call : ∀ {K' : Value → Heap → Prop}, (∀ h', Only [] h h' → K' (.bool true) h') → CallsH Try.prog 37 [.pointer (some ⟨r, 0, none⟩), .slice g.q g.MM.length g.qc, .slice (some ⟨B, 0, none⟩) W W] h K' := fun hk => by
    rw [← el]
    exact alike37 A hk
  refine call fun h1 O1 => ?_
  have H1 := H.new O1
  have A1 := AX.only O1 (by simp)
  rw [ldB_some, show (!true) = false from rfl, bcase_false, show IntKind.wrap .i64 ((i : Int) + 1) = ((i + 1 : Nat) : Int) by rw [wrap_i64 (by omega) (by omega)]; omega]
  refine bcase_of (fun hb => ?_) fun hb => next h1 g H1 ef eL hN hM
  rw [sb1 A1, ldI_some]
  refine depth31 H1.R ?_
  rw [ldI_some, if_neg (fun hc => by rw [hin.2 hc] at hb; cases hb), show ((0 : Int) != 0) = false by decide, bcase_false]
  exact next h1 g H1 ef eL hN hM
theorem k33 {q1 : Option Addr} {c1 : Nat} {M1 : List It} {n : Nat} (hn : n = M1.length) (Q1 : Own h lo 2 q1 M1.length c1 (flat M1)) (ha : a < M1.length)
    (hK : ∀ h2, Own h2 lo 2 q1 (M1.set a ((atL M1 a).1, IntKind.wrap .i64 ((atL M1 a).2 + 1))).length c1 (flat (M1.set a ((atL M1 a).1, IntKind.wrap .i64 ((atL M1 a).2 + 1)))) → Only (OwnB q1) h h2 →
      F10.wk46 bk p0 sl cap (some ⟨r, 0, none⟩) W q1 n c1 (some ⟨B, 0, none⟩) W W i ⟨sb, 0, none⟩ inn h2 (Lawful h0)) :
    F10.wk33 bk p0 sl cap (some ⟨r, 0, none⟩) W q1 n c1 (some ⟨B, 0, none⟩) W W i ⟨sb, 0, none⟩ a inn h (Lawful h0) := by
  subst hn
  unfold F10.wk33 F10.Jk33
  exact Q1.ld1 rfl ha (Q1.st1 rfl ha fun h2 Q2 O2 => hK h2 Q2 O2)
/-- a step that protects -/
theorem stepP (next : ∀ h g, PS h0 lo r M S B W h g → g.fm = g.f → g.Lm = g.L → g.N ≤ 4 * (i + 1) → g.MM.length ≤ i + 1 → bk p0 sl cap (some ⟨r, 0, none⟩) W g.q g.MM.length g.qc (some ⟨B, 0, none⟩) W W ((i + 1 : Nat) : Int) h)
    (H : PS h0 lo r M S B W h g) (AX : At h sb [.int .i64 wh, .int .i64 wo, .int .u32 x]) (hs : g.τ sb = 4) (ef : g.fm = g.f) (eL : g.Lm = g.L) (hN : g.N ≤ 4 * i) (hM : g.MM.length ≤ i) (hi : i < 100) (hW : W ≤ 4) (hin : inn = true ↔ 0 ≤ wo ∧ wo < W)
    (hx : 0 ≤ x ∧ x ≤ 4294967295) (ha : a ≤ g.MM.length) (h1 : ∀ j, j < a → (atL g.MM j).1 < x) (h2 : a = g.MM.length ∨ x ≤ (atL g.MM a).1) (hth : th = true ↔ (a < g.MM.length ∧ (atL g.MM a).1 = x)) :
    CallsH Try.prog 33 [.pointer (some ⟨r, 0, none⟩), .int .u32 x] h fun v3 h4 => (v3 = (.tuple #[]) ∧ bcase (!th) (newK h4 (.cells #[(.int .u32 (0 : Int)), (.int .i64 (0 : Int))] 74) (fun b5 h6 => appK h6 74 2 16 #[(.int .u32 (0 : Int)), (.int .i64 (0 : Int))] g.q g.MM.length g.qc (some (Addr.mk b5 0 none)) 1 (fun p7 l8 c9 h10 => (0 ≤ (IntKind.wrap .i64 ((a : Int) + (1 : Int))) ∧ (IntKind.wrap .i64 ((a : Int) + (1 : Int))) ≤ (Nat.cast l8 : Int) ∧ (0 ≤ (a : Int) ∧ (a : Int) ≤ (Nat.cast l8 : Int) ∧ copyK h10 2 (if c9 = (Int.toNat (IntKind.wrap .i64 ((a : Int) + (1 : Int)))) then p7 else Option.map (fun a' => Addr.add a' ((Int.toNat (IntKind.wrap .i64 ((a : Int) + (1 : Int)))) * 2)) p7) (l8 - (Int.toNat (IntKind.wrap .i64 ((a : Int) + (1 : Int))))) (if c9 = (Int.toNat (a : Int)) then p7 else Option.map (fun a' => Addr.add a' ((Int.toNat (a : Int)) * 2)) p7) (l8 - (Int.toNat (a : Int))) (fun _ h12 => ldI .u32 (rd h12 (Addr.add ⟨sb, 0, none⟩ 2)) (fun n13 => ptrK p7 (fun a14 => (0 ≤ (a : Int) ∧ (a : Int) < (Nat.cast l8 : Int) ∧ stK h12 (Addr.add (Addr.add a14 (Int.toNat (a : Int) * 2)) 0) (.int .u32 n13) (fun h15 => stK h15 (Addr.add (Addr.add a14 (Int.toNat (a : Int) * 2)) 1) (.int .i64 (0 : Int)) (fun h16 => F10.wk33 bk p0 sl cap (some ⟨r, 0, none⟩) W p7 l8 c9 (some ⟨B, 0, none⟩) W W i ⟨sb, 0, none⟩ a inn h16 (Lawful h0)))))))))))) (F10.wk33 bk p0 sl cap (some ⟨r, 0, none⟩) W g.q g.MM.length g.qc (some ⟨B, 0, none⟩) W W i ⟨sb, 0, none⟩ a inn h4 (Lawful h0))) := by
  have hLB : LB = 140737488355328 := rfl
  refine prot33 H.R hx (by omega) fun k1 R1 O1 => ⟨rfl, ?_⟩
  have X1 : ∀ b ∈ [M], b < h.size → g.τ b = 1 := fun b hb _ => by simp at hb; subst hb; exact H.t1.2.1
  have H1 := H.opR O1 X1 (fun b hb _ => by simp at hb; subst hb; exact H.R.ge.2.2) R1 (by omega) fun k hk b hb => .inl hb
  have A1 := AX.stay hs O1 X1 (by decide)
  have hs1 : tgUp g.τ h.size 1 sb = 4 := (tgUp_old AX.lt).trans hs
  have hsq : sb ∉ OwnB g.q := fun hb => by have := H.t3 sb hb; omega
  have fN := (H.R.fr x).2
  have f0 := (H.R.fr x).1
  rcases H.I.place ha h1 h2 with ⟨ht, hax, hf, e⟩ | ⟨hnt, hf, hA, hD⟩
  · rw [hth.2 ⟨ht, hax⟩, show (!true) = false from rfl, bcase_false]
    rw [ef] at e hf
    have va : atL g.MM a = (x, g.f x) := by
      have v := H.I.val (atL g.MM a) (by simp [atL, List.getD, ht])
      rw [hax, ef] at v
      exact Prod.ext hax v
    refine k33 rfl H1.Q ht fun h3 Q3 O3 => ?_
    rw [va] at Q3
    dsimp only at Q3
    rw [wrap_i64 (by omega) (by omega)] at Q3
    have I3 : MI (fup g.fm x (g.fm x + 1)) (g.MM.set a (x, g.f x + 1)) := by
      rw [set_mid ht e, ef]
      have := H.I
      rw [e, ef] at this
      exact this.set (by omega)
    have X3 : ∀ b ∈ OwnB g.q, b < k1.size → tgUp g.τ h.size 1 b = 3 := fun b hb _ => H1.t3 b hb
    have H3 := H1.opQ O3 X3 (fun b hb _ => (H1.Q.lt b hb).1) Q3 I3 fun b hb => .inl hb
    have A3 := A1.stay (g := { g with τ := tgUp g.τ h.size 1 }) hs1 O3 X3 (by decide)
    have := k46 next H3 A3 (by show fup g.fm x (g.fm x + 1) = fup g.f x (g.f x + 1); rw [ef]) eL (by show g.N + 1 ≤ _; omega) (by show (g.MM.set a _).length ≤ _; rw [List.length_set]; omega) hi hW hin
    dsimp only at this
    rw [List.length_set] at this
    exact this
  · have hth' : th = false := by
      cases th
      · rfl
      · exact absurd (hth.1 rfl) hnt
    rw [hth', show (!false) = true from rfl, bcase_true]
    rw [ef] at hf
    refine ins_app H1.Q ha (by show g.MM.length ≤ _; omega) H1.hsz A1 hsq fun p' c' h3 Q3 O3 hp3 => ?_
    have il := insM_len (x := (x, (0 : Int))) ha
    have il1 := insM_len (x := (x, (0 : Int) + 1)) ha
    have at0 := insM_at (x := (x, (0 : Int))) ha
    rw [← il] at Q3
    refine k33 il.symm Q3 (by rw [il]; omega) fun h4 Q4 O4 => ?_
    rw [at0] at Q4
    dsimp only at Q4
    rw [wrap_i64 (by omega) (by omega), insM_set ha] at Q4
    have O34 : Only (OwnB g.q) k1 h4 := O3.trans O4 fun b hb hlt => by
      rcases hp3 b hb with h | h
      · exact h
      · omega
    have I4 : MI (fup g.fm x (g.fm x + 1)) (insM g.MM a (x, 0 + 1)) := by
      have := H.I
      rw [← List.take_append_drop a g.MM] at this
      rw [ef, hf]
      rw [ef] at this
      exact this.ins hA hD (by decide)
    have X3 : ∀ b ∈ OwnB g.q, b < k1.size → tgUp g.τ h.size 1 b = 3 := fun b hb _ => H1.t3 b hb
    have H4 := H1.opQ O34 X3 (fun b hb _ => (H1.Q.lt b hb).1) Q4 I4 hp3
    have A4 := A1.stay (g := { g with τ := tgUp g.τ h.size 1 }) hs1 O34 X3 (by decide)
    have := k46 next H4 A4 (by show fup g.fm x (g.fm x + 1) = fup g.f x (g.f x + 1); rw [ef]) eL (by show g.N + 1 ≤ _; omega) (by show (insM g.MM a _).length ≤ _; rw [il1]; omega) hi hW hin
    dsimp only at this
    rw [il1] at this
    exact this
end
end Go.Proofs.Ytipckkeaoncjiaa.Ev
