/- THE DEQUE: an act's step, an act's beginning, what it got. Conditions: the deque and the act stand. -/
import Derived.Test.YtipckkeaoncjiaaDeqT
import Derived.Test.YtipckkeaoncjiaaDeqG
namespace Go.Proofs.Ytipckkeaoncjiaa.Ev
open Go

theorem stepD_len {base n : Nat} {cs : List Int} {A : Dc} : (stepD base n cs A).2.length = cs.length := by
  unfold stepD
  repeat' split
  all_goals simp
theorem DcIs.of {h : Heap} {f d bx by_ : Nat} {A : Dc} (H : At h f (cellsD f d bx by_ A)) (e : isFirst A.ph = false) : DcIs h f d bx by_ A :=
  ⟨H, (fun e' => by rw [e] at e'; cases e'), (fun e' => by rw [e] at e'; cases e')⟩
theorem nxd_first {f bx by_ ph : Nat} (h : isFirst ph = true) : nxd f bx by_ ph = .func (.func 57) #[] #[.pointer (some ⟨bx, 0, none⟩), .pointer (some ⟨by_, 0, none⟩)] := by unfold nxd; rw [if_pos h]
theorem nxd_later {f bx by_ ph : Nat} (h : isFirst ph = false) : nxd f bx by_ ph = nf (phd ph) f := by unfold nxd; rw [if_neg (by simp [h])]; rfl

section
variable {h : Heap} {f d bx by_ m mc base n : Nat} {cs : List Int} {ops fails : Int} {K : Value → Heap → Prop} {A : Dc}

/-- by the closure of an act's first step -/
theorem q57 {g : Nat} (F : At h bx [.func (.func g) #[] #[]]) (B : At h by_ [.pointer (some ⟨f, 0, none⟩)]) (hg : xget X g = some .go)
    (hK : CallsH Try.prog g [.pointer (some ⟨f, 0, none⟩)] h (fun v h' => v = .tuple #[] ∧ K (.tuple #[]) h')) :
    CallsH Try.prog 57 [.pointer (some ⟨bx, 0, none⟩), .pointer (some ⟨by_, 0, none⟩)] h K := by
  apply F57.spec
  unfold F57.w F57.J0
  refine ⟨_, by rw [F.rd]; rfl, ldP_of (by rw [B.rd]; rfl) (dynK_go hg ?_)⟩
  simpa using hK

theorem stepD_spec (Q : DqIs h d m base n) (M : MemIs h m mc cs ops fails) (H : DcIs h f d bx by_ A) (hb : base < 1000000) (hn : 1 ≤ n) (hn2 : n < 1000000) (hl : base + 2 + n ≤ cs.length) (d1 : f ≠ d) (d2 : f ≠ m) (d3 : f ≠ mc) (d4 : d ≠ m) (d5 : d ≠ mc)
    (hph : A.ph ≤ 14) (hp1 : A.ph = 2 ∨ A.ph = 7 → 0 ≤ A.b) (hp2 : A.ph = 13 → 0 ≤ A.t)
    (hK : ∀ h' fails', DcIs h' f d bx by_ (stepD base n cs A).1 → MemIs h' m mc (stepD base n cs A).2 (if A.done then ops else up ops) fails' → Only [f, m, mc] h h' → K (.bool (stepD base n cs A).1.done) h') :
    CallsH Try.prog 22 [.pointer (some ⟨f, 0, none⟩)] h K := by
  apply F22.spec
  unfold F22.w F22.J0
  simp only [add_mk, Nat.zero_add]
  obtain ⟨v, t, b, ph, dn, ok⟩ := A
  have H0 : At h f (cD d v t b (nxd f bx by_ ph) dn ok) := H.act
  refine ldB_of (n := dn) (by rw [H0.rd]; rfl) ?_
  have hend : ∀ h' fails', DcIs h' f d bx by_ (stepD base n cs ⟨v, t, b, ph, dn, ok⟩).1 → MemIs h' m mc (stepD base n cs ⟨v, t, b, ph, dn, ok⟩).2 (if dn then ops else up ops) fails' → Only [f, m, mc] h h' → F22.wk3 ⟨f, 0, none⟩ h' K := by
    intro h' fails' a1 a2 a3
    unfold F22.wk3 F22.Jk3
    simp only [add_mk, Nat.zero_add]
    exact ldB_of (by rw [a1.act.rd]; rfl) (hK h' fails' a1 a2 a3)
  clear hK
  dsimp only at hph hp1 hp2
  cases dn with
  | true =>
    rw [Bool.not_true, bcase_false]
    exact hend h fails H M (Only.refl _ _)
  | false =>
    rw [Bool.not_false, bcase_true]
    simp only [stepD, Bool.false_eq_true, if_false] at hend
    refine ⟨_, by rw [H0.rd]; rfl, ?_⟩
    match ph, hph, H, H0, hend, hp1, hp2 with
    | 0, _, H, H0, hend, _, _ =>
      refine dynK_go go57 (q57 (H.fn rfl) (H.me rfl) go40 (q40 Q M H0 hb hn hl d2 d3 fun h1 A1 M1 O1 => ⟨rfl, rfl, hend h1 _ (DcIs.of A1 rfl) M1 O1⟩))
    | 1, _, H, H0, hend, _, _ =>
      refine dynK_go go58 (q58 Q M H0 hb hn hl d1 d2 d3 d4 d5 fun h1 A1 M1 O1 => ⟨rfl, hend h1 _ (DcIs.of ?_ rfl) M1 O1⟩)
      show At h1 f (cD d v _ b (nf 70 f) (decide _) _)
      simpa using A1
    | 2, _, H, H0, hend, hp, _ =>
      exact dynK_go go70 (q70 Q M H0 hb hn hn2 hl d2 d3 (hp (Or.inl rfl)) fun h1 A1 M1 O1 => ⟨rfl, hend h1 _ (DcIs.of A1 rfl) M1 O1⟩)
    | 3, _, H, H0, hend, _, _ =>
      exact dynK_go go88 (q88 Q M H0 hb hn hl d2 d3 fun h1 A1 M1 O1 => ⟨rfl, hend h1 _ (DcIs.of A1 rfl) M1 O1⟩)
    | 4, _, H, H0, hend, _, _ =>
      refine dynK_go go57 (q57 (H.fn rfl) (H.me rfl) go41 (q41 Q M H0 hb hn hl d2 d3 fun h1 A1 M1 O1 => ⟨rfl, rfl, hend h1 _ (DcIs.of A1 rfl) M1 O1⟩))
    | 5, _, H, H0, hend, _, _ =>
      exact dynK_go go59 (q59 Q M H0 hb hn hl d2 d3 fun h1 A1 M1 O1 => ⟨rfl, hend h1 _ (DcIs.of A1 rfl) M1 O1⟩)
    | 6, _, H, H0, hend, _, _ =>
      refine dynK_go go72 (q72 Q M H0 hb hn hl d2 d3 fun h1 A1 M1 O1 => ⟨rfl, ?_⟩)
      refine hend h1 _ ?_ M1 O1
      cases hd : decide (IntKind.wrap .i64 (cs.getD base 0) > b) with
      | true =>
        rw [hd] at A1
        exact DcIs.of A1 rfl
      | false =>
        rw [hd] at A1
        exact DcIs.of A1 rfl
    | 7, _, H, H0, hend, hp, _ =>
      refine dynK_go go89 (q89 Q M H0 hb hn hn2 hl d2 d3 (hp (Or.inr rfl)) (fun e h1 A1 M1 O1 => ⟨rfl, ?_⟩) fun e h1 A1 M1 O1 => ⟨rfl, ?_⟩)
      · exact hend h1 _ (by
          show DcIs h1 f d bx by_ (ite _ _ _ : Dc × List Int).1
          rw [if_pos (decide_eq_true e)]
          exact DcIs.of A1 rfl) (by
          show MemIs h1 m mc (ite _ _ _ : Dc × List Int).2 _ _
          rw [if_pos (decide_eq_true e)]
          exact M1) O1
      · exact hend h1 _ (by
          show DcIs h1 f d bx by_ (ite _ _ _ : Dc × List Int).1
          rw [if_neg (by simpa using e)]
          exact DcIs.of A1 rfl) (by
          show MemIs h1 m mc (ite _ _ _ : Dc × List Int).2 _ _
          rw [if_neg (by simpa using e)]
          exact M1) O1
    | 8, _, H, H0, hend, _, _ =>
      refine dynK_go go99 (q99 Q M H0 hb hn hl d2 d3 (fun e h1 A1 M1 O1 => ⟨rfl, ?_⟩) fun e h1 fails' A1 M1 O1 => ⟨rfl, ?_⟩)
      · exact hend h1 _ (by
          show DcIs h1 f d bx by_ (ite _ _ _ : Dc × List Int).1
          rw [if_pos e]
          exact DcIs.of A1 rfl) (by
          show MemIs h1 m mc (ite _ _ _ : Dc × List Int).2 _ _
          rw [if_pos e]
          exact M1) O1
      · exact hend h1 _ (by
          show DcIs h1 f d bx by_ (ite _ _ _ : Dc × List Int).1
          rw [if_neg e]
          exact DcIs.of A1 rfl) (by
          show MemIs h1 m mc (ite _ _ _ : Dc × List Int).2 _ _
          rw [if_neg e]
          exact M1) O1
    | 9, _, H, H0, hend, _, _ =>
      exact dynK_go go100 (q100 Q M H0 hb hn hl d2 d3 fun h1 A1 M1 O1 => ⟨rfl, hend h1 _ (DcIs.of A1 rfl) M1 O1⟩)
    | 10, _, H, H0, hend, _, _ =>
      exact dynK_go go90 (q90 Q M H0 hb hn hl d1 d2 d3 fun h1 A1 M1 O1 => ⟨rfl, hend h1 _ (DcIs.of A1 rfl) M1 O1⟩)
    | 11, _, H, H0, hend, _, _ =>
      refine dynK_go go57 (q57 (H.fn rfl) (H.me rfl) go42 (q42 Q M H0 hb hn hl d2 d3 fun h1 A1 M1 O1 => ⟨rfl, rfl, hend h1 _ (DcIs.of A1 rfl) M1 O1⟩))
    | 12, _, H, H0, hend, _, _ =>
      refine dynK_go go60 (q60 Q M H0 hb hn hl d2 d3 fun h1 A1 M1 O1 => ⟨rfl, hend h1 _ (DcIs.of ?_ rfl) M1 O1⟩)
      show At h1 f (cD d v t _ (nf 73 f) (decide _) _)
      simpa using A1
    | 13, _, H, H0, hend, _, hp =>
      exact dynK_go go73 (q73 Q M H0 hb hn hn2 hl d2 d3 (hp rfl) fun h1 A1 M1 O1 => ⟨rfl, hend h1 _ (DcIs.of A1 rfl) M1 O1⟩)
    | 14, _, H, H0, hend, _, _ =>
      refine dynK_go go91 (q91 Q M H0 hb hn hl d2 d3 (fun e h1 A1 M1 O1 => ⟨rfl, ?_⟩) fun e h1 fails' A1 M1 O1 => ⟨rfl, ?_⟩)
      · exact hend h1 _ (by
          show DcIs h1 f d bx by_ (ite _ _ _ : Dc × List Int).1
          rw [if_pos e]
          exact DcIs.of A1 rfl) (by
          show MemIs h1 m mc (ite _ _ _ : Dc × List Int).2 _ _
          rw [if_pos e]
          exact M1) O1
      · exact hend h1 _ (by
          show DcIs h1 f d bx by_ (ite _ _ _ : Dc × List Int).1
          rw [if_neg e]
          exact DcIs.of A1 rfl) (by
          show MemIs h1 m mc (ite _ _ _ : Dc × List Int).2 _ _
          rw [if_neg e]
          exact M1) O1
end
end Go.Proofs.Ytipckkeaoncjiaa.Ev
