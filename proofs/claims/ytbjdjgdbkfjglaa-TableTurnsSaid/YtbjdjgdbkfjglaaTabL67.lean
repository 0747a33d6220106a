/- THE LAW OF TURNS (TableTurns), whole. Conditions: none. -/
import Derived.Test.YtbjdjgdbkfjglaaTabL66
namespace Go.Proofs.Ytbjdjgdbkfjglaa.Ev
open Go

section
variable {h0 : Heap} {t m mc n T : Nat} {p u : Option Addr} {cp cu : Nat} {ks us : List Int} {kinds : Int}

theorem build_loop (hkr : ∀ z ∈ ks, IntKind.min .u8 ≤ z ∧ z ≤ IntKind.max .u8) (hur : ∀ z ∈ us, IntKind.min .u8 ≤ z ∧ z ≤ IntKind.max .u8) (k0 : 0 < kinds) (k1 : kinds < 1000) (hL12 : ks.length ≤ 12) (hT : us.length = T) (hT6 : T ≤ 600) (n8 : n ≤ 8)
    (hI : Ints h0 .u8 p ks) (hJ : Ints h0 .u8 u us) (s1 : h0.size ≤ m) (s2 : h0.size ≤ mc) (cs : List Int) (hz : ∀ x, x < n → cell 0 cs x = 0) :
    ∀ (g i : Nat) (fb : Nat → Nat) (q1 q2 : Option Addr) (c1 c2 : Nat) (h : Heap), ks.length - i < g → i ≤ ks.length →
      (∀ b ∈ OwnB q1, b ≠ t ∧ b ≠ m ∧ b ≠ mc ∧ b ∉ OwnB q2 ∧ ∀ k, k < i → fb k ≠ b) → (∀ b ∈ OwnB q2, b ≠ t ∧ b ≠ m ∧ b ≠ mc ∧ ∀ k, k < i → fb k ≠ b) →
      TW h t m mc 0 n cs 0 0 → Mf h0 h t m mc i fb (fun k => newFi (keyOf (ks.getD k 0) kinds) n) → Own h h0.size 1 q1 i c1 (rowV i fun k => ptrOf (fb k)) → Own h h0.size 1 q2 i c2 (rowV i fun _ => .int .i64 0) → Only [] h0 h →
      F6.wL14 g p ks.length cp u T cu (n : Int) kinds (some ⟨m, 0, none⟩) (some ⟨t, 0, none⟩) q1 i c1 q2 i c2 (i : Int) h (Lawful h0) := by
  intro g
  induction g with
  | zero => intro i fb q1 q2 c1 c2 h hg; omega
  | succ g ih =>
    intro i fb q1 q2 c1 c2 h hg hi hm1 hm2 W B Q S O
    have hn := W.hn
    unfold F6.wL14 F6.JL14
    by_cases hlt : i < ks.length
    · rw [decide_eq_true (by omega), bcase_true]
      obtain ⟨a, rfl, ha⟩ := hI.only O (by simp) i hlt
      refine ⟨by omega, by omega, ?_⟩
      simp only [Int.toNat_natCast, Nat.mul_one, ha, ldI_some]
      refine key_spec (by omega) (ldI_of rfl (find_tw W fun x h1 X1 W1 O1 hx => ldP_of rfl (newK_at fun h2 A2 O2 z2 => ?_)))
      have lt := W.lt
      have so := O.size
      have so1 := O1.size
      have lx := X1.lt
      have P2 := (O.nil O1 (by simp)).nil O2 (by simp)
      have W2 := W1.only O2 (by simp) (by simp) (by simp)
      have B2 := (B.only O1 (by simp)).only O2 (by simp)
      have Q2 := (Q.only O1 (by simp)).only O2 (by simp)
      have S2 := (S.only O1 (by simp)).only O2 (by simp)
      have X2 := X1.only O2 (by simp)
      have nq1 : ∀ b ∈ OwnB q1, b < h.size := fun b hb => (Q.lt b hb).2
      have nq2 : ∀ b ∈ OwnB q2, b < h.size := fun b hb => (S.lt b hb).2
      have nfb : ∀ k, k < i → fb k < h.size := fun k hk => (B.find k hk).lt
      refine own_app Q2 A2 rfl rfl (by omega) (by simp [Value.oneCell']) (by omega) fun q1' c1' h3 Q3 O3 b3 => ?_
      have P3 := P2.nil O3 fun b hb => (Q.lt b hb).1
      have W3 := W2.only O3 (fun hb => (hm1 _ hb).1 rfl) (fun hb => (hm1 _ hb).2.1 rfl) (fun hb => (hm1 _ hb).2.2.1 rfl)
      have B3 := B2.only O3 fun k hk hb => (hm1 _ hb).2.2.2.2 k hk rfl
      have S3 := S2.only O3 fun b e hb => (hm1 _ hb).2.2.2.1 (by rw [e]; simp [OwnB])
      have X3 := X2.only O3 fun hb => by have := nq1 _ hb; omega
      have so3 := O3.size
      refine newK_at fun h4 A4 O4 z4 => ?_
      have P4 := P3.nil O4 (by simp)
      refine own_app (S3.only O4 (by simp)) A4 rfl rfl (by omega) (by simp [Value.oneCell']) (by have := P3.size; omega) fun q2' c2' h5 S5 O5 b5 => ?_
      have P5 := P4.nil O5 fun b hb => (S.lt b hb).1
      have W5 := (W3.only O4 (by simp) (by simp) (by simp)).only O5 (fun hb => (hm2 _ hb).1 rfl) (fun hb => (hm2 _ hb).2.1 rfl) (fun hb => (hm2 _ hb).2.2.1 rfl)
      have B5 := (B3.only O4 (by simp)).only O5 fun k hk hb => (hm2 _ hb).2.2.2 k hk rfl
      have X5 := (X3.only O4 (by simp)).only O5 fun hb => by have := nq2 _ hb; omega
      have Q4 := Q3.only O4 (by simp)
      have lq1 := fun b hb => (Q3.lt b hb).2
      have new1 : ∀ b ∈ OwnB q1', b ∈ OwnB q1 ∨ h2.size ≤ b := b3
      have new2 : ∀ b ∈ OwnB q2', b ∈ OwnB q2 ∨ h4.size ≤ b := b5
      have Q5 : Own h5 h0.size 1 q1' (i + 1) c1' (rowV i (fun k => ptrOf (fb k)) ++ [.pointer (some ⟨x, 0, none⟩)]) := Q4.only O5 fun b e hb => by
        rcases b3 b (by rw [e]; simp [OwnB]) with hb' | hb'
        · exact (hm1 b hb').2.2.2.1 hb
        · have := nq2 b hb
          omega
      have e1 : IntKind.wrap .i64 ((i : Int) + 1) = ((i + 1 : Nat) : Int) := by rw [wrap_i64 (by omega) (by omega)]; simp
      rw [e1]
      have fbx : ∀ k, k < i + 1 → fset fb i x k < h2.size := by
        intro k hk
        by_cases e : k = i
        · subst e; rw [fset_same]; omega
        · rw [fset_other _ _ e]
          have := nfb k (by omega)
          omega
      refine ih (i + 1) (fset fb i x) q1' q2' c1' c2' h5 (by omega) (by omega) (fun b hb => ?_) (fun b hb => ?_) W5 ⟨fun k hk => ?_, fun k l hk hl hne => ?_, fun k hk => ?_⟩ ?_ ?_ P5
      · have hno : b ∉ OwnB q2' := by
          intro hb2
          have l1 := lq1 b hb
          rcases new2 b hb2 with e | e
          · rcases new1 b hb with e' | e'
            · exact (hm1 b e').2.2.2.1 e
            · have := nq2 b e
              omega
          · omega
        rcases new1 b hb with e | e
        · obtain ⟨y0, y1, y2, _, y3⟩ := hm1 b e
          refine ⟨y0, y1, y2, hno, fun k hk => ?_⟩
          by_cases e' : k = i
          · subst e'; rw [fset_same]; have := nq1 b e; omega
          · rw [fset_other _ _ e']; exact y3 k (by omega)
        · refine ⟨by omega, by omega, by omega, hno, fun k hk => ?_⟩
          have := fbx k hk
          omega
      · rcases new2 b hb with e | e
        · obtain ⟨y0, y1, y2, y3⟩ := hm2 b e
          refine ⟨y0, y1, y2, fun k hk => ?_⟩
          by_cases e' : k = i
          · subst e'; rw [fset_same]; have := nq2 b e; omega
          · rw [fset_other _ _ e']; exact y3 k (by omega)
        · refine ⟨by omega, by omega, by omega, fun k hk => ?_⟩
          have := fbx k hk
          omega
      · by_cases e : k = i
        · subst e; rw [fset_same]; exact X5
        · rw [fset_other _ _ e]; exact B5.find k (by omega)
      · by_cases e : k = i
        · subst e
          rw [fset_same, fset_other _ _ (Ne.symm hne)]
          have := nfb l (by omega)
          omega
        · rw [fset_other _ _ e]
          by_cases e' : l = i
          · subst e'
            rw [fset_same]
            have := nfb k (by omega)
            omega
          · rw [fset_other _ _ e']
            exact B.ne k l (by omega) (by omega) hne
      · by_cases e : k = i
        · subst e; rw [fset_same]; omega
        · rw [fset_other _ _ e]; exact B.out k (by omega)
      · rw [rowV_succ, fset_same, rowV_ext (g' := fun k => ptrOf (fb k)) fun k hk => by rw [fset_other _ _ (by omega)]]
        exact Q5
      · rw [rowV_succ]
        exact S5
    · rw [decide_eq_false (by omega), bcase_false]
      obtain rfl : i = ks.length := by omega
      unfold F6.wk18 F6.Jk18 F6.wk19 F6.Jk19
      refine ⟨T + ks.length * (3 * n + 4) + 1, ?_⟩
      have hpot : ∀ k, pot 0 cs (newFi (keyOf (ks.getD k 0) kinds) n) ≤ 3 * n := fun k => pot_new hn
      exact turns_loop hkr hur k0 k1 rfl hL12 hT hT6 n8 hI hJ s1 s2 hm1 hm2 (T + ks.length * (3 * n + 4) + 1) 0 cs (fun k => newFi (keyOf (ks.getD k 0) kinds) n) (fun _ => 0) 0 0 h (by omega) (by omega) (by omega)
        ⟨fun k hk => newFi_ok hn, TInv.empty hz, (fun k l _ _ e => by cases e), fun x hx hnz => absurd (hz x hx) hnz⟩ (fun k hk => rfl) (RR.start fun k hk => hpot k) (fun k hk => by have := hpot k; show 0 + pot 0 cs (newFi (keyOf (ks.getD k 0) kinds) n) ≤ _; omega) W B Q S O
end

theorem turns_law (h : Heap) (v : Int) (hv : IntKind.min .u8 ≤ v ∧ v ≤ IntKind.max .u8) (p : Option Addr) (c : Nat) (ks : List Int) (hI : Ints h .u8 p ks) (hkr : ∀ z ∈ ks, IntKind.min .u8 ≤ z ∧ z ≤ IntKind.max .u8) (_ : (ks.length : Int) ≤ maxLen)
    (w : Int) (hw : IntKind.min .u8 ≤ w ∧ w ≤ IntKind.max .u8) (u : Option Addr) (d : Nat) (us : List Int) (hJ : Ints h .u8 u us) (hur : ∀ z ∈ us, IntKind.min .u8 ≤ z ∧ z ≤ IntKind.max .u8) (_ : (us.length : Int) ≤ maxLen) :
    CallsH Try.prog 6 [.int .u8 v, .slice p ks.length c, .int .u8 w, .slice u us.length d] h (Lawful h) := by
  apply F6.spec
  unfold F6.w F6.J0
  refine known6 fun h1 O1 => ldB_of rfl ?_
  rw [Bool.not_true, bcase_false]
  refine bcase_of (fun _ => ⟨rfl, O1⟩) fun hl => bcase_of (fun _ => ⟨rfl, O1⟩) fun hl2 => ?_
  simp at hl hl2
  obtain ⟨w0, w1⟩ := tmod_fit hv (by omega : (0 : Int) < 8)
  obtain ⟨k, hk⟩ : ∃ k : Nat, v.tmod 8 = k := ⟨(v.tmod 8).toNat, by omega⟩
  obtain ⟨y0, y1⟩ := tmod_fit hw (by omega : (0 : Int) < 12)
  rw [hk] at w0 w1 ⊢
  generalize w.tmod 12 = r at y0 y1 ⊢
  have f1 : IntKind.wrap .i64 (k : Int) = k := wrap_i64 (by omega) (by omega)
  have f2 : IntKind.wrap .i64 ((k : Int) + 1) = ((k + 1 : Nat) : Int) := by
    rw [wrap_i64 (by omega) (by omega)]
    simp
  have f3 : IntKind.wrap .i64 r = r := wrap_i64 (by omega) (by omega)
  have f4 : IntKind.wrap .i64 (r + 1) = r + 1 := wrap_i64 (by omega) (by omega)
  rw [f1, f2, f3, f4]
  refine ⟨by decide, by decide, new_spec fun m mc h2 M2 O2 hm hc => ldP_of rfl ?_⟩
  have el : cellsFor ((k + 1 : Nat) : Int) = k + 1 := cellsFor_of (by omega)
  rw [el] at M2
  refine tabnew_spec (base := 0) (n := k + 1) M2 (by omega) (by simp) (by simp; omega) fun t h3 T3 O3 ht => ⟨_, _, rfl, ?_⟩
  rw [show ((0 : Int) != 0) = false from rfl, bcase_false]
  have lm := M2.head.lt
  have lc := M2.body.lt
  have := O1.size
  have := O2.size
  have hz : ∀ x, x < k + 1 → cell 0 (List.replicate (k + 1) (0 : Int)) x = 0 := by
    intro x hx
    unfold cell
    simp [List.getD, show x < k + 1 from hx]
  have W3 : TW h3 t m mc 0 (k + 1) (List.replicate (k + 1) 0) 0 0 := ⟨T3, M2.only O3 (by simp) (by simp), by omega, by omega, by omega, by omega, by omega, by simp⟩
  unfold F6.wk14 F6.Jk14
  exact ⟨ks.length + 1, build_loop hkr hur (by omega) (by omega) (by omega) rfl (by omega) (by omega) hI hJ (by omega) (by omega) _ hz (ks.length + 1) 0 (fun _ => 0) none none 0 0 h3 (by omega) (by omega) (by simp [OwnB]) (by simp [OwnB]) W3
    ⟨fun k hk => by omega, fun k l hk => by omega, fun k hk => by omega⟩ (Own.nil _ _ _) (Own.nil _ _ _) ((O1.nil O2 (by simp)).nil O3 (by simp))⟩
end Go.Proofs.Ytbjdjgdbkfjglaa.Ev
