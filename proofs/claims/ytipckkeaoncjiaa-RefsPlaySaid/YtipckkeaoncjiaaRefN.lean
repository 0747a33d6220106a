/- RefsPlay: the comparing (alike), seen from the heap. Conditions: the refs, the rows of counts, the stacks stand, and tell the same. -/
import Derived.Test.YtipckkeaoncjiaaRefM
namespace Go.Proofs.Ytipckkeaoncjiaa.Ev
open Go

theorem nodup_len : ∀ (R ys : List Int), R.Nodup → (∀ x ∈ R, x ∈ ys) → R.length ≤ ys.length
  | [], _, _, _ => Nat.zero_le _
  | x :: R, ys, nd, h => by
    have hx := h x (by simp)
    have nd' := List.nodup_cons.1 nd
    have ih := nodup_len R (ys.erase x) nd'.2 fun y hy => (List.mem_erase_of_ne (fun e => nd'.1 (by rw [← e]; exact hy))).2 (h y (by simp [hy]))
    have := List.length_erase_of_mem hx
    have hp := List.length_pos_of_mem hx
    simp only [List.length_cons]
    omega
/-- the refs and the row of counts and the stacks beside them -/
structure Al (lo : Nat) (h : Heap) (r M S B W N : Nat) (f : Int → Int) (p : Nat → Option Addr) (c : Nat → Nat) (P : Nat → Option Addr) (C : Nat → Nat) (L : Nat → List Int) (q : Option Addr) (qc : Nat) (ks : List Int) : Prop where
  R : Rf lo h r M S W N f p c L
  T : St lo h B W N P C L
  Q : Own h lo 2 q ks.length qc (ks.flatMap (cntV f))
  qs : ks.Pairwise (· < ·)
  qm : ∀ x, x ∈ ks ↔ f x ≠ 0
  N1 : N ≤ 1000
  W4 : W ≤ 4
  k1 : ks.length ≤ 1000
section
variable {lo : Nat} {h h0 : Heap} {r M S B W N : Nat} {f : Int → Int} {p : Nat → Option Addr} {c : Nat → Nat} {P : Nat → Option Addr} {C : Nat → Nat} {L : Nat → List Int} {q : Option Addr} {qc cB : Nat} {ks : List Int} {K : Value → Heap → Prop}
theorem Al.new {h' : Heap} (H : Al lo h r M S B W N f p c P C L q qc ks) (O : Only [] h h') : Al lo h' r M S B W N f p c P C L q qc ks :=
  ⟨H.R.new O, H.T.new O, H.Q.only O (by simp), H.qs, H.qm, H.N1, H.W4, H.k1⟩
theorem getD_mem {xs : List Int} {i : Nat} (h : i < xs.length) : xs.getD i 0 ∈ xs := by simp [List.getD, h]
theorem root_loop {lo9 : Nat} {q9 : Option Addr} {c9 : Nat} {R : List Int} (H : Al lo h r M S B W N f p c P C L q qc ks) (HR : Own h lo9 1 q9 R.length c9 (R.map (Value.int .u32))) (hR1 : R.length ≤ LB) (hs : R.Pairwise (· < ·)) (hm : ∀ x, x ∈ R → 1 < x ∧ (x ∈ ks ∨ ∃ k, k < W ∧ x ∈ L k))
    (hK : F37.wk15 ⟨r, 0, none⟩ q ks.length qc (some ⟨B, 0, none⟩) W cB q9 R.length c9 h K) :
    ∀ (d i : Nat), i + d = R.length → F37.wL11 (d + 1) ⟨r, 0, none⟩ q ks.length qc (some ⟨B, 0, none⟩) W cB q9 R.length c9 i h K := by
  have hLB : LB = 140737488355328 := rfl
  intro d
  induction d with
  | zero =>
    intro i hd
    unfold F37.wL11 F37.JL11
    rw [show decide ((i : Int) < (R.length : Int)) = false by simp; omega, bcase_false]
    exact hK
  | succ d ih =>
    intro i hd
    have next := ih (i + 1) (by omega)
    unfold F37.wL11 F37.JL11
    have hi : i < R.length := by omega
    rw [show decide ((i : Int) < (R.length : Int)) = true by simp; omega, bcase_true, show IntKind.wrap .i64 ((i : Int) + 1) = ((i + 1 : Nat) : Int) by rw [wrap_i64 (by omega) (by omega)]; omega]
    have hx := hm _ (getD_mem hi)
    have call : ∀ {K' : Value → Heap → Prop}, K' (.bool true) h → CallsH Try.prog 55 [.int .u32 (R.getD i 0), .slice q ks.length qc, .slice (some ⟨B, 0, none⟩) W cB] h K' := fun hk => root55 H.T H.Q H.N1 H.W4 H.k1 hx.2 hk
    refine HR.ints.ld2 rfl hi ?_
    rw [show decide (R.getD i 0 ≤ 1) = false by rw [decide_eq_false_iff_not]; omega, bcase_false]
    refine bcase_of (fun hp => ?_) fun hp => ?_
    · simp only [decide_eq_true_eq] at hp
      rw [show IntKind.wrap .i64 ((i : Int) - 1) = ((i - 1 : Nat) : Int) by rw [wrap_i64 (by omega) (by omega)]; omega]
      refine HR.ints.ld2 rfl (by omega) (HR.ints.ld2 rfl hi ?_)
      have lt : R.getD (i - 1) 0 < R.getD i 0 := by
        have := (List.pairwise_iff_getElem.1 hs) (i - 1) i (by omega) hi (by omega)
        simpa [List.getD, hi, show i - 1 < R.length by omega] using this
      rw [show decide (R.getD (i - 1) 0 ≥ R.getD i 0) = false by rw [decide_eq_false_iff_not]; omega, bcase_false]
      refine HR.ints.ld2 rfl hi (call ?_)
      rw [ldB_some, show (!true) = false from rfl, bcase_false]
      exact next
    · refine HR.ints.ld2 rfl hi (call ?_)
      rw [ldB_some, show (!true) = false from rfl, bcase_false]
      exact next
theorem mem_loop {lo9 : Nat} {q9 : Option Addr} {c9 : Nat} {R : List Int} (H : Al lo h r M S B W N f p c P C L q qc ks) (HR : Own h lo9 1 q9 R.length c9 (R.map (Value.int .u32))) (hR1 : R.length ≤ LB) (hm : ∀ x, 1 < x → x ∈ ks → x ∈ R)
    (hK : F37.wk21 ⟨r, 0, none⟩ (some ⟨B, 0, none⟩) W cB q9 R.length c9 h K) :
    ∀ (d i : Nat), i + d = ks.length → F37.wL17 (d + 1) ⟨r, 0, none⟩ q ks.length qc (some ⟨B, 0, none⟩) W cB q9 R.length c9 i h K := by
  intro d
  have h1000 := H.k1
  induction d with
  | zero =>
    intro i hd
    unfold F37.wL17 F37.JL17
    rw [show decide ((i : Int) < (ks.length : Int)) = false by simp; omega, bcase_false]
    exact hK
  | succ d ih =>
    intro i hd
    have next := ih (i + 1) (by omega)
    unfold F37.wL17 F37.JL17
    have hi : i < ks.length := by omega
    rw [show decide ((i : Int) < (ks.length : Int)) = true by simp; omega, bcase_true, show IntKind.wrap .i64 ((i : Int) + 1) = ((i + 1 : Nat) : Int) by rw [wrap_i64 (by omega) (by omega)]; omega]
    refine H.Q.ldH rfl hi ?_
    refine bcase_of (fun hp => ?_) fun hp => next
    simp only [decide_eq_true_eq] at hp
    refine H.Q.ldH rfl hi (in56 HR.ints hR1 ?_)
    rw [decide_eq_true (hm _ hp (getD_mem hi)), ldB_some, show (!true) = false from rfl, bcase_false]
    exact next
theorem stk_loop {lo9 : Nat} {q9 : Option Addr} {c9 : Nat} {R : List Int} (H : Al lo h r M S B W N f p c P C L q qc ks) (HR : Own h lo9 1 q9 R.length c9 (R.map (Value.int .u32))) (hR1 : R.length ≤ LB) (hm : ∀ x k, 1 < x → k < W → x ∈ L k → x ∈ R)
    (hK : K (.bool true) h) :
    ∀ (d k : Nat), k + d = W → F37.wL22 (d + 1) ⟨r, 0, none⟩ (some ⟨B, 0, none⟩) W cB q9 R.length c9 (0 : Int) k h K := by
  intro d
  have hN := H.N1
  have hW := H.W4
  induction d with
  | zero =>
    intro k hd
    unfold F37.wL22 F37.JL22
    rw [show decide ((k : Int) < (W : Int)) = false by simp; omega, bcase_false]
    exact hK
  | succ d ih =>
    intro k hd
    have next := ih (k + 1) (by omega)
    have hk : k < W := by omega
    unfold F37.wL22 F37.JL22
    rw [show decide ((k : Int) < (W : Int)) = true by simp; omega, bcase_true, ptrK_some]
    refine ⟨by omega, by omega, ?_⟩
    have rk : rd h (Addr.add ⟨B, 0, none⟩ (Int.toNat (k : Int) * 1)) = some (.slice (P k) (L k).length (C k)) := by
      rw [add_mk, show 0 + Int.toNat (k : Int) * 1 = k by omega, H.T.T.rd, rowV_get hk]
    rw [rk, ldS_some]
    refine depth31 H.R ?_
    rw [ldI_some, if_pos (by omega), Int.toNat_natCast]
    refine ⟨rfl, rfl, ?_⟩
    rw [ptrK_some]
    refine ⟨by omega, by omega, rfl, ?_⟩
    rw [show rd h (Addr.add ⟨B, 0, none⟩ (k * 1)) = some (.slice (P k) (L k).length (C k)) from rk, ldS_some]
    refine ⟨rfl, rfl, ?_⟩
    rw [show (((L k).length : Int) != ((L k).length : Int)) = false by simp, bcase_false]
    unfold F37.wk27 F37.Jk27
    have hl := H.T.len k hk
    have inn : ∀ (e i : Nat), i + e = (L k).length → F37.wL27 (fun x0 x2p x2l x2c x9p x9l x9c x11 x13 h => F37.wL22 (d + 1) x0 x2p x2l x2c x9p x9l x9c x11 x13 h K) (e + 1) ⟨r, 0, none⟩ (some ⟨B, 0, none⟩) W cB q9 R.length c9 (0 : Int) k i h K := by
      intro e
      induction e with
      | zero =>
        intro i hi
        unfold F37.wL27 F37.JL27
        refine H.T.ldT rfl hk ?_
        rw [show decide ((i : Int) < ((L k).length : Int)) = false by simp; omega, bcase_false, show IntKind.wrap .i64 ((k : Int) + 1) = ((k + 1 : Nat) : Int) by rw [wrap_i64 (by omega) (by omega)]; omega]
        exact next
      | succ e ihe =>
        intro i hi
        have nx := ihe (i + 1) (by omega)
        have hil : i < (L k).length := by omega
        unfold F37.wL27 F37.JL27
        refine H.T.ldT rfl hk ?_
        rw [show decide ((i : Int) < ((L k).length : Int)) = true by simp; omega, bcase_true, show IntKind.wrap .i64 ((i : Int) + 1) = ((i + 1 : Nat) : Int) by rw [wrap_i64 (by omega) (by omega)]; omega]
        refine H.T.ldT rfl hk ((H.T.own k hk).ints.ld2 rfl hil ?_)
        refine bcase_of (fun hp => ?_) fun hp => nx
        simp only [decide_eq_true_eq] at hp
        refine H.T.ldT rfl hk ((H.T.own k hk).ints.ld2 rfl hil (in56 HR.ints hR1 ?_))
        rw [decide_eq_true (hm _ k hp hk (getD_mem hil)), ldB_some, show (!true) = false from rfl, bcase_false]
        exact nx
    exact ⟨_, inn (L k).length 0 (by omega)⟩
theorem alike37 (H : Al lo h r M S B W N f p c P C L q qc ks) (hK : ∀ h', Only [] h h' → K (.bool true) h') : CallsH Try.prog 37 [.pointer (some ⟨r, 0, none⟩), .slice q ks.length qc, .slice (some ⟨B, 0, none⟩) W cB] h K := by
  refine F37.spec _ _ _ _ _ _ _ h K ?_
  have hLB : LB = 140737488355328 := rfl
  have hN := H.N1
  have hk1 := H.k1
  unfold F37.w F37.J0
  refine all35 H.R (by omega) fun h1 p1 c1 ks1 s1 m1 Ow1 O1 => ?_
  have e : ks1 = ks := sorted_ext s1 H.qs fun x => by rw [m1 x, H.qm x]
  subst e
  rw [ldS_some, show ((ks1.length : Int) != (ks1.length : Int)) = false by simp, bcase_false]
  have H1 := H.new O1
  unfold F37.wk5 F37.Jk5
  have main : ∀ (d i : Nat), i + d = ks1.length → F37.wL5 (d + 1) ⟨r, 0, none⟩ q ks1.length qc (some ⟨B, 0, none⟩) W cB p1 ks1.length c1 i h1 K := by
    intro d
    induction d with
    | zero =>
      intro i hd
      unfold F37.wL5 F37.JL5
      rw [show decide ((i : Int) < (ks1.length : Int)) = false by simp; omega, bcase_false]
      unfold F37.wk9 F37.Jk9
      refine roots32 H1.R (by omega) H.W4 fun h2 p2 c2 R sR mR Ow2 O2 => ?_
      rw [ldS_some]
      have H2 := H1.new O2
      unfold F37.wk11 F37.Jk11
      have hR1 : R.length ≤ LB := by
        rcases Nat.lt_or_ge LB R.length with hh | hh
        · exfalso
          have : R.length ≤ 10000 := by
            have nd : R.Nodup := sR.imp fun {a b} hab e => by omega
            have sub : ∀ x ∈ R, x ∈ ks1 ++ catL L W := fun x hx => by
              obtain ⟨_, h | ⟨k, hk, hx'⟩⟩ := (mR x).1 hx
              · exact List.mem_append.2 (.inl ((H.qm x).2 h))
              · exact List.mem_append.2 (.inr (mem_catL.2 ⟨k, hk, hx'⟩))
            have l1 := nodup_len R _ nd sub
            rw [List.length_append] at l1
            have l2 := catL_len (L := L) (N := N) W H.R.len
            have : W * N ≤ 4 * N := Nat.mul_le_mul_right _ H.W4
            omega
          omega
        · exact hh
      refine ⟨_, root_loop H2 Ow2 hR1 sR (fun x hx => ?_) ?_ R.length 0 (by omega)⟩
      · obtain ⟨a, h | h⟩ := (mR x).1 hx
        · exact ⟨a, .inl ((H.qm x).2 h)⟩
        · exact ⟨a, .inr h⟩
      · unfold F37.wk15 F37.Jk15 F37.wk17 F37.Jk17
        refine ⟨_, mem_loop H2 Ow2 hR1 (fun x h1 hx => (mR x).2 ⟨h1, .inl ((H.qm x).1 hx)⟩) ?_ ks1.length 0 (by omega)⟩
        unfold F37.wk21 F37.Jk21 F37.wk22 F37.Jk22
        exact ⟨_, stk_loop H2 Ow2 hR1 (fun x k h1 hk hx => (mR x).2 ⟨h1, .inr ⟨k, hk, hx⟩⟩) (hK h2 (O1.trans O2 (by simp))) W 0 (by omega)⟩
    | succ d ih =>
      intro i hd
      have next := ih (i + 1) (by omega)
      have hi : i < ks1.length := by omega
      unfold F37.wL5 F37.JL5
      rw [show decide ((i : Int) < (ks1.length : Int)) = true by simp; omega, bcase_true, show IntKind.wrap .i64 ((i : Int) + 1) = ((i + 1 : Nat) : Int) by rw [wrap_i64 (by omega) (by omega)]; omega]
      refine Ow1.ldHN rfl hi (H1.Q.ldHN rfl hi ?_)
      rw [show (!(ks1.getD i 0 == ks1.getD i 0 && (f (ks1.getD i 0) == f (ks1.getD i 0) && true))) = false by simp, bcase_false]
      refine H1.Q.ldH rfl hi ?_
      obtain ⟨b, hq, r0, r1⟩ := H1.Q.at2 hi
      rw [hq, ptrK_some]
      refine ⟨by omega, by omega, ?_⟩
      have rr : rd h1 (Addr.add (Addr.add ⟨b, 0, none⟩ (Int.toNat (i : Int) * 2)) 1) = some (.int .i64 (f (ks1.getD i 0))) := by
        rw [add_mk, add_mk, Int.toNat_natCast, Nat.zero_add]; exact r1
      rw [rr, ldI_some]
      refine count34 H1.R ?_
      rw [ldI_some]
      refine ⟨rfl, rfl, ?_⟩
      rw [ptrK_some]
      refine ⟨by omega, by omega, rfl, rfl, ?_⟩
      rw [rr, ldI_some]
      refine ⟨rfl, ?_⟩
      rw [show (f (ks1.getD i 0) != f (ks1.getD i 0)) = false by simp, bcase_false, ← hq]
      exact next
  exact ⟨_, main ks1.length 0 (by omega)⟩
end
end Go.Proofs.Ytipckkeaoncjiaa.Ev
