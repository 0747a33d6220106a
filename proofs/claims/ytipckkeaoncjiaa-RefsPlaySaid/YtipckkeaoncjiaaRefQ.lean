/- RefsPlay: the refs, the stacks and the row of counts beside one another; a step on each. Conditions: they stand (PS). -/
import Derived.Test.YtipckkeaoncjiaaRefP
namespace Go.Proofs.Ytipckkeaoncjiaa.Ev
open Go

structure G10 where
  N : Nat
  f : Int → Int
  fm : Int → Int
  p : Nat → Option Addr
  c : Nat → Nat
  L : Nat → List Int
  P : Nat → Option Addr
  C : Nat → Nat
  Lm : Nat → List Int
  q : Option Addr
  qc : Nat
  MM : List It
  τ : Nat → Nat
def tgUp (τ : Nat → Nat) (n t : Nat) : Nat → Nat := fun b => if b < n then τ b else t
theorem tgUp_old {τ : Nat → Nat} {n t b : Nat} (h : b < n) : tgUp τ n t b = τ b := if_pos h
theorem tgUp_new {τ : Nat → Nat} {n t b : Nat} (h : n ≤ b) : tgUp τ n t b = t := if_neg (by omega)
structure PS (h0 : Heap) (lo r M S B W : Nat) (h : Heap) (g : G10) : Prop where
  R : Rf lo h r M S W g.N g.f g.p g.c g.L
  T : St lo h B W g.N g.P g.C g.Lm
  Q : Own h lo 2 g.q g.MM.length g.qc (flat g.MM)
  I : MI g.fm g.MM
  t1 : g.τ r = 1 ∧ g.τ M = 1 ∧ g.τ S = 1
  t1p : ∀ k, k < W → ∀ b ∈ OwnB (g.p k), g.τ b = 1
  t2 : g.τ B = 2
  t2p : ∀ k, k < W → ∀ b ∈ OwnB (g.P k), g.τ b = 2
  t3 : ∀ b ∈ OwnB g.q, g.τ b = 3
  O : Only [] h0 h
  hlo : h0.size ≤ lo
  hsz : lo ≤ h.size
theorem St.grow {lo : Nat} {h : Heap} {B W N N' : Nat} {P : Nat → Option Addr} {C : Nat → Nat} {L : Nat → List Int} (H : St lo h B W N P C L) (hN : N ≤ N') : St lo h B W N' P C L :=
  { H with len := fun k hk => Nat.le_trans (H.len k hk) hN }
theorem St.lt {lo : Nat} {h : Heap} {B W N : Nat} {P : Nat → Option Addr} {C : Nat → Nat} {L : Nat → List Int} (H : St lo h B W N P C L) : B < h.size ∧ ∀ k, k < W → ∀ b ∈ OwnB (P k), lo ≤ b ∧ b < h.size :=
  ⟨H.T.lt, fun k hk => (H.own k hk).lt⟩
section
variable {h0 : Heap} {lo r M S B W : Nat} {h h' : Heap} {g : G10} {X : List Nat}
theorem PS.onO (H : PS h0 lo r M S B W h g) (O : Only X h h') (hXl : ∀ b ∈ X, b < h.size → lo ≤ b) : Only [] h0 h' :=
  H.O.trans O fun b hb hlt => by
    have := hXl b hb (by have := H.O.size; omega)
    have := H.hlo
    omega
theorem PS.opR (H : PS h0 lo r M S B W h g) (O : Only X h h') (hX : ∀ b ∈ X, b < h.size → g.τ b = 1) (hXl : ∀ b ∈ X, b < h.size → lo ≤ b) {N' : Nat} {f' : Int → Int} {p' : Nat → Option Addr} {c' : Nat → Nat} {L' : Nat → List Int}
    (R' : Rf lo h' r M S W N' f' p' c' L') (hN : g.N ≤ N') (hp' : ∀ k, k < W → ∀ b ∈ OwnB (p' k), b ∈ OwnB (g.p k) ∨ h.size ≤ b) : PS h0 lo r M S B W h' { g with N := N', f := f', p := p', c := c', L := L', τ := tgUp g.τ h.size 1 } where
  R := R'
  T := (H.T.only O (fun hb => by have := hX B hb H.T.lt.1; rw [H.t2] at this; cases this) fun k hk b hb hbX => by
    have := hX b hbX (H.T.lt.2 k hk b hb).2
    rw [H.t2p k hk b hb] at this; cases this).grow hN
  Q := H.Q.onlyC O fun b hb _ hbX => by
    have := hX b hbX (H.Q.lt b hb).2
    rw [H.t3 b hb] at this; cases this
  I := H.I
  t1 := by have l := H.R.lt; exact ⟨(tgUp_old l.1).trans H.t1.1, (tgUp_old l.2.2.1).trans H.t1.2.1, (tgUp_old l.2.1).trans H.t1.2.2⟩
  t1p := fun k hk b hb => by
    rcases hp' k hk b hb with h1 | h1
    · exact (tgUp_old (H.R.lt.2.2.2 k hk b h1).2).trans (H.t1p k hk b h1)
    · exact tgUp_new h1
  t2 := (tgUp_old H.T.lt.1).trans H.t2
  t2p := fun k hk b hb => (tgUp_old (H.T.lt.2 k hk b hb).2).trans (H.t2p k hk b hb)
  t3 := fun b hb => (tgUp_old (H.Q.lt b hb).2).trans (H.t3 b hb)
  O := H.onO O hXl
  hlo := H.hlo
  hsz := Nat.le_trans H.hsz O.size
theorem PS.opT (H : PS h0 lo r M S B W h g) (O : Only X h h') (hX : ∀ b ∈ X, b < h.size → g.τ b = 2) (hXl : ∀ b ∈ X, b < h.size → lo ≤ b) {N' : Nat} {p' : Nat → Option Addr} {c' : Nat → Nat} {L' : Nat → List Int}
    (T' : St lo h' B W N' p' c' L') (hN : g.N ≤ N') (hp' : ∀ k, k < W → ∀ b ∈ OwnB (p' k), b ∈ OwnB (g.P k) ∨ h.size ≤ b) : PS h0 lo r M S B W h' { g with N := N', P := p', C := c', Lm := L', τ := tgUp g.τ h.size 2 } where
  R := (H.R.only O (fun hb => by have := hX r hb H.R.lt.1; rw [H.t1.1] at this; cases this) (fun hb => by have := hX S hb H.R.lt.2.1; rw [H.t1.2.2] at this; cases this) (fun hb => by have := hX M hb H.R.lt.2.2.1; rw [H.t1.2.1] at this; cases this) fun k hk b hb hbX => by
    have := hX b hbX (H.R.lt.2.2.2 k hk b hb).2
    rw [H.t1p k hk b hb] at this; cases this).grow hN
  T := T'
  Q := H.Q.onlyC O fun b hb _ hbX => by
    have := hX b hbX (H.Q.lt b hb).2
    rw [H.t3 b hb] at this; cases this
  I := H.I
  t1 := by have l := H.R.lt; exact ⟨(tgUp_old l.1).trans H.t1.1, (tgUp_old l.2.2.1).trans H.t1.2.1, (tgUp_old l.2.1).trans H.t1.2.2⟩
  t1p := fun k hk b hb => (tgUp_old (H.R.lt.2.2.2 k hk b hb).2).trans (H.t1p k hk b hb)
  t2 := (tgUp_old H.T.lt.1).trans H.t2
  t2p := fun k hk b hb => by
    rcases hp' k hk b hb with h1 | h1
    · exact (tgUp_old (H.T.lt.2 k hk b h1).2).trans (H.t2p k hk b h1)
    · exact tgUp_new h1
  t3 := fun b hb => (tgUp_old (H.Q.lt b hb).2).trans (H.t3 b hb)
  O := H.onO O hXl
  hlo := H.hlo
  hsz := Nat.le_trans H.hsz O.size
theorem PS.opQ (H : PS h0 lo r M S B W h g) (O : Only X h h') (hX : ∀ b ∈ X, b < h.size → g.τ b = 3) (hXl : ∀ b ∈ X, b < h.size → lo ≤ b) {q' : Option Addr} {c' : Nat} {MM' : List It} {fm' : Int → Int}
    (Q' : Own h' lo 2 q' MM'.length c' (flat MM')) (I' : MI fm' MM') (hq' : ∀ b ∈ OwnB q', b ∈ OwnB g.q ∨ h.size ≤ b) : PS h0 lo r M S B W h' { g with q := q', qc := c', MM := MM', fm := fm', τ := tgUp g.τ h.size 3 } where
  R := H.R.only O (fun hb => by have := hX r hb H.R.lt.1; rw [H.t1.1] at this; cases this) (fun hb => by have := hX S hb H.R.lt.2.1; rw [H.t1.2.2] at this; cases this) (fun hb => by have := hX M hb H.R.lt.2.2.1; rw [H.t1.2.1] at this; cases this) fun k hk b hb hbX => by
    have := hX b hbX (H.R.lt.2.2.2 k hk b hb).2
    rw [H.t1p k hk b hb] at this; cases this
  T := H.T.only O (fun hb => by have := hX B hb H.T.lt.1; rw [H.t2] at this; cases this) fun k hk b hb hbX => by
    have := hX b hbX (H.T.lt.2 k hk b hb).2
    rw [H.t2p k hk b hb] at this; cases this
  Q := Q'
  I := I'
  t1 := by have l := H.R.lt; exact ⟨(tgUp_old l.1).trans H.t1.1, (tgUp_old l.2.2.1).trans H.t1.2.1, (tgUp_old l.2.1).trans H.t1.2.2⟩
  t1p := fun k hk b hb => (tgUp_old (H.R.lt.2.2.2 k hk b hb).2).trans (H.t1p k hk b hb)
  t2 := (tgUp_old H.T.lt.1).trans H.t2
  t2p := fun k hk b hb => (tgUp_old (H.T.lt.2 k hk b hb).2).trans (H.t2p k hk b hb)
  t3 := fun b hb => by
    rcases hq' b hb with h1 | h1
    · exact (tgUp_old (H.Q.lt b h1).2).trans (H.t3 b h1)
    · exact tgUp_new h1
  O := H.onO O hXl
  hlo := H.hlo
  hsz := Nat.le_trans H.hsz O.size
theorem PS.new (H : PS h0 lo r M S B W h g) (O : Only [] h h') : PS h0 lo r M S B W h' g where
  R := H.R.new O
  T := H.T.new O
  Q := H.Q.only O (by simp)
  I := H.I
  t1 := H.t1
  t1p := H.t1p
  t2 := H.t2
  t2p := H.t2p
  t3 := H.t3
  O := H.O.trans O (by simp)
  hlo := H.hlo
  hsz := Nat.le_trans H.hsz O.size
/-- the step's own block stays -/
theorem At.stay {sb t : Nat} {cs : List Value} (A : At h sb cs) (hs : g.τ sb = 4) (O : Only X h h') (hX : ∀ b ∈ X, b < h.size → g.τ b = t) (ht : t ≠ 4) : At h' sb cs :=
  A.only O fun hb => by have := hX sb hb A.lt; omega
/-- a stack's head set -/
theorem St.set {lo N : Nat} {P : Nat → Option Addr} {C : Nat → Nat} {L : Nat → List Int} (H : St lo h B W N P C L) {w : Nat} (hw : w < W) {h2 : Heap} (O : Only (B :: OwnB (P w)) h h2) {p' : Option Addr} {c' : Nat} {l' : List Int} {N' : Nat} (hN : N ≤ N') (hl : l'.length ≤ N')
    (A : At h2 B (rowV W fun k => .slice (pup P w p' k) (pup L w l' k).length (pup C w c' k))) (Ow : Own h2 lo 1 p' l'.length c' (l'.map (Value.int .u32))) (hp' : ∀ b ∈ OwnB p', b ∈ OwnB (P w) ∨ h.size ≤ b) :
    St lo h2 B W N' (pup P w p') (pup C w c') (pup L w l') where
  T := A
  own := fun k hk => by
    unfold pup
    by_cases e : k = w
    · subst e
      rw [if_pos rfl, if_pos rfl, if_pos rfl]
      exact Ow
    · rw [if_neg e, if_neg e, if_neg e]
      refine (H.own k hk).onlyC O fun b hb _ => ?_
      simp only [List.mem_cons, not_or]
      exact ⟨(H.sep k hk b hb).1, (H.sep k hk b hb).2 w hw (Ne.symm e)⟩
  len := fun k hk => by
    unfold pup
    by_cases e : k = w
    · rw [if_pos e]; exact hl
    · rw [if_neg e]; exact Nat.le_trans (H.len k hk) hN
  ge := H.ge
  sep := fun k hk b hb => by
    have old : ∀ b ∈ OwnB p', b ≠ B ∧ ∀ k', k' < W → k' ≠ w → b ∉ OwnB (P k') := fun b hb => by
      rcases hp' b hb with h1 | h1
      · exact H.sep w hw b h1
      · have l := H.lt
        exact ⟨by omega, fun k' hk' _ hb' => by have := (l.2 k' hk' b hb').2; omega⟩
    unfold pup at hb ⊢
    by_cases e : k = w
    · subst e
      rw [if_pos rfl] at hb
      obtain ⟨a1, a3⟩ := old b hb
      refine ⟨a1, fun k' hk' hne => ?_⟩
      rw [if_neg hne]
      exact a3 k' hk' hne
    · rw [if_neg e] at hb
      obtain ⟨a1, a3⟩ := H.sep k hk b hb
      refine ⟨a1, fun k' hk' hne => ?_⟩
      by_cases e' : k' = w
      · rw [if_pos e']
        intro hb'
        exact (old b hb').2 k hk e hb
      · rw [if_neg e']
        exact a3 k' hk' hne
end
end Go.Proofs.Ytipckkeaoncjiaa.Ev
