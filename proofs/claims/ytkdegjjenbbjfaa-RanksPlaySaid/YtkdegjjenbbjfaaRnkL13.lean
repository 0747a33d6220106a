/- THE LAW OF RANKS PLAYED (RanksPlay), its steps. Conditions: none. -/
import Derived.Test.YtkdegjjenbbjfaaRnkL12
namespace Go.Proofs.Ytkdegjjenbbjfaa.Ev
open Go

section
variable {h0 : Heap} {p0 : Option Addr} {cap sl : Nat} {s : Nat → Nat → Value} {q pi mb lo : Nat}

/-- the place of a number -/
def AtR (M : List It) (id x : Int) : Prop := (x = -1 ∧ ¬ hasId M id) ∨ ∃ a, a < M.length ∧ x = (a : Int) ∧ (atL M a).1 = id
theorem AtR.dec {L M : List It} {id x : Int} (H : AtR M id x) (p : L.Perm M) : (hasId L id → decide (x < 0) = false ∧ decide (x ≥ 0) = true) ∧ (¬ hasId L id → decide (x < 0) = true ∧ decide (x ≥ 0) = false) := by
  rcases H with ⟨rfl, hn⟩ | ⟨a, ha, rfl, e⟩
  · refine ⟨fun h => absurd (hasId_iff.2 ((hasId_perm p).1 h)) hn, fun _ => ⟨rfl, rfl⟩⟩
  · refine ⟨fun _ => ⟨decide_eq_false (by omega), decide_eq_true (by omega)⟩, fun h => absurd ((hasId_perm p).2 ⟨_, atL_mem ha, e⟩) h⟩

theorem rplay_step {gas i : Nat} {w id key x : Int} {sb : Nat} (hi : i < 100)
    (next : ∀ (h : Heap) (p : Option Addr) (c : Nat) (L : List It) (mp : Option Addr) (mc : Nat) (M : List It), RP h0 h lo q pi mb p c L mp mc M → M.length ≤ i + 1 → F12.wL8 gas p0 sl cap (some ⟨q, 0, none⟩) mp M.length mc ((i + 1 : Nat) : Int) h (Lawful h0))
    {h : Heap} {p : Option Addr} {c : Nat} {L : List It} {mp : Option Addr} {mc : Nat} {M : List It} (R : RP h0 h lo q pi mb p c L mp mc M) (hM : M.length ≤ i) (A : At h sb [.int .i64 w, .int .i64 id, .int .i64 key]) (hsb : sb ∉ q :: pi :: mb :: OwnB p) (hsb2 : sb ∉ OwnB mp) (hx : AtR M id x) :
    F12.wk21 (fun x0p x0l x0c x3 x4p x4l x4c x5 h => F12.wL8 gas x0p x0l x0c x3 x4p x4l x4c x5 h (Lawful h0)) p0 sl cap (some ⟨q, 0, none⟩) mp M.length mc (i : Int) ⟨sb, 0, none⟩ x h (Lawful h0) := by
  have hlen := R.perm.length_eq
  have check := fun {h' : Heap} {p' : Option Addr} {c' : Nat} {L' : List It} {mp' : Option Addr} {mc' : Nat} {M' : List It} (R' : RP h0 h' lo q pi mb p' c' L' mp' mc' M') (hM' : M'.length ≤ i + 1) (A' : At h' sb [.int .i64 w, .int .i64 id, .int .i64 key]) => rplay_check (gas := gas) (p0 := p0) (sl := sl) (cap := cap) hi next R' hM' A'
  obtain ⟨hdT, hdF⟩ := hx.dec R.perm
  have szb := R.base.size
  have lsb := A.lt
  have lmp := R.sl.lt
  -- the queue has turned, the model not yet
  have after : ∀ {h1 : Heap} {p1 : Option Addr} {c1 : Nat} {L1 : List It}, Qu h1 lo q pi mb p1 c1 L1 → Only (pi :: mb :: OwnB p) h h1 → (∀ b ∈ OwnB p1, b ∈ OwnB p ∨ h.size ≤ b) →
      At h1 sb [.int .i64 w, .int .i64 id, .int .i64 key] ∧ Own h1 h0.size 2 mp M.length mc (flat M) ∧ (∀ b ∈ OwnB mp, b ∉ q :: pi :: mb :: OwnB p1) ∧ Only [] h0 h1 ∧ lo ≤ h1.size ∧ sb ∉ q :: pi :: mb :: OwnB p1 := by
    intro h1 p1 c1 L1 Q1 O1 hp1
    have key : ∀ b, b < h.size → b ∉ q :: pi :: mb :: OwnB p → b ∉ q :: pi :: mb :: OwnB p1 := by
      intro b hb hn hm
      simp only [List.mem_cons] at hm hn
      rcases hm with hm | hm | hm | hm
      · exact hn (Or.inl hm)
      · exact hn (Or.inr (Or.inl hm))
      · exact hn (Or.inr (Or.inr (Or.inl hm)))
      · rcases hp1 b hm with h3 | h3
        · exact hn (Or.inr (Or.inr (Or.inr h3)))
        · omega
    refine ⟨A.only O1 fun hb => hsb (List.mem_cons_of_mem _ hb), R.sl.only O1 fun b hb hs => ?_, fun b hb => key b (lmp b hb).2 (R.sep b hb), R.qu.nil R.base R.lo0 O1, Nat.le_trans R.lo1 O1.size, key sb lsb hsb⟩
    exact R.sep b (by rw [hb]; simp [OwnB]) (List.mem_cons_of_mem _ hs)
  unfold F12.wk21 F12.Jk21
  simp only [add_mk, Nat.zero_add]
  refine ldI_of (n := w) (by rw [A.rd]; rfl) (bcase_of (fun _ => ?_) fun _ => ldI_of (n := w) (by rw [A.rd]; rfl) (bcase_of (fun _ => ?_) fun _ => ldI_of (n := w) (by rw [A.rd]; rfl) (bcase_of (fun _ => ?_) fun _ => ?_)))
  · -- push
    refine ldI_of (n := id) (by rw [A.rd]; rfl) (ldI_of (n := key) (by rw [A.rd]; rfl) ?_)
    refine qpush31 (x := (id, key)) R.qu (by omega) R.lo1 (fun hh => ldB_of rfl ?_) fun hh h1 p1 c1 L1 Q1 r1 O1 hp1 => ldB_of rfl ?_
    · rw [(hdT hh).1, beq_self_eq_true, Bool.not_true, bcase_false, bcase_false]
      exact check R (by omega) A
    · rw [(hdF hh).1, beq_self_eq_true, Bool.not_true, bcase_false, bcase_true]
      obtain ⟨A1, S1, sp1, B1, lo1, hsb1⟩ := after Q1 O1 hp1
      refine ldI_of (n := id) (by rw [A1.rd]; rfl) (ldI_of (n := key) (by rw [A1.rd]; rfl) (newK_at fun h2 A2 O2 z2 => ?_))
      have sz1 := O1.size
      refine own_app (S1.only O2 (by simp)) A2 rfl rfl (by omega) (by simp [Value.oneCell']) (by omega) fun mp' mc' h3 S3 O3 hp3 => ?_
      have lq := Q1.lt
      have e : M.length + 1 = (M ++ [(id, key)]).length := by simp
      have e2 : flat M ++ [.int .i64 id, .int .i64 key] = flat (M ++ [(id, key)]) := by rw [flat_app]; rfl
      have S3 : Own h3 h0.size 2 mp' (M.length + 1) mc' (flat M ++ [.int .i64 id, .int .i64 key]) := S3
      rw [e, e2] at S3
      rw [e]
      refine check ⟨(Q1.only O2 (by simp)).only O3 fun b hb hm => sp1 b hm hb, S3, fun b hb hm => ?_, ?_, (B1.nil O2 (by simp)).nil O3 fun b hb => (lmp b hb).1, R.lo0, ?_⟩ (by simp; omega) ((A1.only O2 (by simp)).only O3 hsb2)
      · rcases hp3 b hb with h4 | h4
        · exact sp1 b h4 hm
        · have := (lq b hm).2
          omega
      · exact r1.trans (R.perm.append_right _)
      · have := O3.size
        omega
  · -- pop
    refine best36 R.sl (by omega) fun y hy => ldI_of rfl ?_
    have model : ∀ (h1 : Heap) (b23 : Bool) (a1 a2 : Int) (L1 : List It), Qu h1 lo q pi mb p c L1 → Only (pi :: mb :: OwnB p) h h1 → b23 = decide (y ≥ 0) → (b23 = false → L1.Perm M) → (b23 = true → ∃ a, a < M.length ∧ y = (a : Int) ∧ (a1, a2) = atL M a ∧ L1.Perm (M.eraseIdx a)) →
        newK h1 (.cells #[(.int .i64 (0 : Int)), (.int .i64 (0 : Int))] 57) (fun b24 h25 => stK h25 (Addr.add (Addr.mk b24 0 none) 0) (.int .i64 a1) (fun h26 => stK h26 (Addr.add (Addr.mk b24 0 none) 1) (.int .i64 a2) (fun h27 => (b23 = false → F12.wk38 (fun x0p x0l x0c x3 x4p x4l x4c x5 h => F12.wL8 gas x0p x0l x0c x3 x4p x4l x4c x5 h (Lawful h0)) p0 sl cap (some ⟨q, 0, none⟩) mp M.length mc (i : Int) ⟨sb, 0, none⟩ h27 (Lawful h0)) ∧ (b23 = true → rd h27 ⟨b24, 0, none⟩ = some (.int .i64 a1) ∧ rd h27 ⟨b24, 1, none⟩ = some (.int .i64 a2) ∧ ∃ a, a < M.length ∧ y = (a : Int) ∧ (∃ b, mp = some ⟨b, 0, none⟩ ∧ rd h27 ⟨b, a * 2, none⟩ = some (.int .i64 a1) ∧ rd h27 ⟨b, a * 2 + 1, none⟩ = some (.int .i64 a2)) ∧ Own h27 h0.size 2 mp M.length mc (flat M) ∧ h0.size ≤ h27.size ∧
          ∀ p' c' h', Own h' h0.size 2 p' (M.eraseIdx a).length c' (flat (M.eraseIdx a)) → Only [] h27 h' → (∀ b ∈ OwnB p', h27.size ≤ b) → F12.wk38 (fun x0p x0l x0c x3 x4p x4l x4c x5 h => F12.wL8 gas x0p x0l x0c x3 x4p x4l x4c x5 h (Lawful h0)) p0 sl cap (some ⟨q, 0, none⟩) p' (M.eraseIdx a).length c' (i : Int) ⟨sb, 0, none⟩ h' (Lawful h0))))) := by
      intro h1 b23 a1 a2 L1 Q1 O1 hb hF hT
      obtain ⟨A1, S1, sp1, B1, lo1, hsb1⟩ := after Q1 O1 (fun b hb => Or.inl hb)
      refine newIt fun h2 A2 O2 z2 => ⟨fun hf => ?_, fun ht => ⟨by rw [A2.rd]; rfl, by rw [A2.rd]; rfl, ?_⟩⟩
      · exact check ⟨Q1.only O2 (by simp), S1.only O2 (by simp), sp1, hF hf, B1.nil O2 (by simp), R.lo0, Nat.le_trans lo1 O2.size⟩ (by omega) (A1.only O2 (by simp))
      · obtain ⟨a, ha, ey, ea, r1⟩ := hT ht
        have S2 := S1.only O2 (by simp)
        have sz1 := O1.size
        have sz2 := O2.size
        obtain ⟨b, e1, e2⟩ := S2.rd (j := a * 2) (by rw [flat_len]; omega)
        obtain ⟨b', e3, e4⟩ := S2.rd (j := a * 2 + 1) (by rw [flat_len]; omega)
        rw [e1] at e3
        injection e3 with e3
        injection e3 with e3
        subst e3
        rw [flat_get0 ha, ← ea] at e2
        rw [flat_get1 ha, ← ea] at e4
        refine ⟨a, ha, ey, ⟨b, e1, e2, e4⟩, S2, by omega, fun p' c' h' S' O' hp' => ?_⟩
        have Q2 := Q1.only O2 (by simp)
        refine check ⟨Q2.only O' (by simp), S', fun b hb hm => ?_, r1, (B1.nil O2 (by simp)).nil O' (by simp), R.lo0, ?_⟩ ?_ ((A1.only O2 (by simp)).only O' (by simp))
        · have := hp' b hb
          have := (Q2.lt b hm).2
          omega
        · have := O'.size
          omega
        · rw [List.length_eraseIdx, if_pos ha]
          omega
    refine qpop32 R.qu (by omega) (fun e h1 Q1 O1 => ⟨_, _, _, rfl, ?_⟩) fun h1 L1 hpos Q1 r1 O1 => ⟨_, _, _, rfl, ?_⟩
    · have hy1 : y = -1 := by
        rcases hy with ⟨e2, -⟩ | ⟨a, ha, -⟩
        · exact e2
        · have : M.length = 0 := by
            rw [← hlen, e]
            rfl
          omega
      subst hy1
      have := model h1 false 0 0 [] Q1 (O1.mono (by simp)) rfl (fun _ => by rw [← e]; exact R.perm) (fun h => by cases h)
      refine newK_mono this fun b h2 H => ?_
      refine stK_mono H fun h3 H => stK_mono H fun h4 H => ?_
      rw [show (!(false == decide ((-1 : Int) ≥ 0))) = false from rfl, bcase_false, bcase_false]
      exact H.1 rfl
    · rcases hy with ⟨-, e2⟩ | ⟨a, ha, ey, hb⟩
      · have : L.length = 0 := by
          rw [hlen, e2]
          rfl
        omega
      · subst ey
        have hxa : atL L 0 = atL M a := by
          have hm : atL L 0 ∈ M := R.perm.mem_iff.1 (atL_mem hpos)
          obtain ⟨k, hk, e3⟩ := mem_atL hm
          refine bet_tot ?_ (R.qu.best _ (R.perm.mem_iff.2 (atL_mem ha)))
          rw [← e3]
          exact hb k hk
        have hbd : decide ((a : Int) ≥ 0) = true := decide_eq_true (by omega)
        have r2 : L1.Perm (M.eraseIdx a) := by
          refine (List.perm_append_right_iff [atL M a]).1 ?_
          rw [hxa] at r1
          exact (r1.trans R.perm).trans (eraseIdx_perm ha).symm
        have := model h1 true (atL L 0).1 (atL L 0).2 L1 Q1 O1 hbd.symm (fun h => by cases h) (fun _ => ⟨a, ha, rfl, hxa, r2⟩)
        refine newK_mono this fun b h2 H => ?_
        refine stK_mono H fun h3 H => stK_mono H fun h4 H => ?_
        obtain ⟨e1, e2, a', ha', ea', ⟨b', ep, e3, e4⟩, S4, l4, fin⟩ := H.2 rfl
        obtain rfl : a = a' := by omega
        rw [hbd, beq_self_eq_true, Bool.not_true, bcase_false, bcase_true]
        refine ldI_of e1 (ldI_of e2 ?_)
        have er := erase_app (K := fun p' l' c' h' => F12.wk38 (fun x0p x0l x0c x3 x4p x4l x4c x5 h => F12.wL8 gas x0p x0l x0c x3 x4p x4l x4c x5 h (Lawful h0)) p0 sl cap (some ⟨q, 0, none⟩) p' l' c' (i : Int) ⟨sb, 0, none⟩ h' (Lawful h0)) S4 ha (by omega) l4 fin
        subst ep
        simp only [ptrK_some, add_mk, Nat.zero_add, Nat.add_zero, Int.toNat_natCast]
        refine ⟨by omega, by omega, ldI_of e3 (ldI_of e4 ?_)⟩
        rw [beq_self_eq_true, beq_self_eq_true, Bool.and_true, Bool.and_true, Bool.not_true, bcase_false, bcase_true]
        simp only [Int.toNat_natCast, true_and] at er ⊢
        exact er
  · -- change
    refine ldI_of (n := id) (by rw [A.rd]; rfl) (ldI_of (n := key) (by rw [A.rd]; rfl) ?_)
    refine qchange34 R.qu (by omega) (fun hh => ldB_of rfl ?_) fun k h1 L1 hk hid Q1 r1 O1 => ldB_of rfl ?_
    · rw [(hdF hh).2, beq_self_eq_true, Bool.not_true, bcase_false, bcase_false]
      exact check R (by omega) A
    · rw [(hdT ⟨k, hk, hid⟩).2, beq_self_eq_true, Bool.not_true, bcase_false, bcase_true]
      rcases hx with ⟨-, hn⟩ | ⟨a, ha, rfl, ea⟩
      · exact absurd (hasId_iff.2 ((hasId_perm R.perm).1 ⟨k, hk, hid⟩)) hn
      obtain ⟨A1, S1, sp1, B1, lo1, hsb1⟩ := after Q1 O1 (fun b hb => Or.inl hb)
      refine ldI_of (n := key) (by rw [A1.rd]; rfl) ?_
      obtain ⟨b, ep, -⟩ := S1.rd (j := a * 2 + 1) (by rw [flat_len]; omega)
      subst ep
      simp only [ptrK_some, add_mk, Nat.zero_add, Nat.add_zero, Int.toNat_natCast]
      refine ⟨by omega, by omega, S1.set (by rw [flat_len]; omega) rfl fun h2 S2 O2 => ?_⟩
      rw [flat_set1, ea] at S2
      have hbm := lmp b (by simp [OwnB])
      have hsbb : b ≠ sb := fun e => hsb2 (by rw [← e]; simp [OwnB])
      have elen : M.length = (M.set a (id, key)).length := by simp
      rw [elen] at S2 ⊢
      have same : atL L k = atL M a := same_item R.perm R.qu.ids (atL_mem hk) (atL_mem ha) (by rw [hid, ea])
      refine check ⟨Q1.only O2 fun x hx' hm => ?_, S2, sp1, ?_, B1.nil O2 (by simpa using hbm.1), R.lo0, Nat.le_trans lo1 O2.size⟩ (by simp; omega) (A1.only O2 (by simpa using Ne.symm hsbb))
      · simp at hm
        subst hm
        exact sp1 x (by simp [OwnB]) hx'
      · refine r1.trans ((set_perm hk _).trans (List.Perm.trans ?_ (set_perm ha _).symm))
        refine List.Perm.append_right _ ?_
        refine (List.perm_append_right_iff [atL M a]).1 ?_
        have := eraseIdx_perm hk
        rw [same] at this
        exact (this.trans R.perm).trans (eraseIdx_perm ha).symm
  · -- drop
    refine ldI_of (n := id) (by rw [A.rd]; rfl) ?_
    refine qdrop35 R.qu (by omega) (fun hh => ldB_of rfl ?_) fun k h1 L1 hk hid Q1 r1 O1 => ldB_of rfl ?_
    · rw [(hdF hh).2, beq_self_eq_true, Bool.not_true, bcase_false, bcase_false]
      exact check R (by omega) A
    · rw [(hdT ⟨k, hk, hid⟩).2, beq_self_eq_true, Bool.not_true, bcase_false, bcase_true]
      rcases hx with ⟨-, hn⟩ | ⟨a, ha, rfl, ea⟩
      · exact absurd (hasId_iff.2 ((hasId_perm R.perm).1 ⟨k, hk, hid⟩)) hn
      obtain ⟨A1, S1, sp1, B1, lo1, hsb1⟩ := after Q1 O1 (fun b hb => Or.inl hb)
      have same : atL L k = atL M a := same_item R.perm R.qu.ids (atL_mem hk) (atL_mem ha) (by rw [hid, ea])
      have sz1 := O1.size
      have er := erase_app (K := fun p' l' c' h' => F12.wk38 (fun x0p x0l x0c x3 x4p x4l x4c x5 h => F12.wL8 gas x0p x0l x0c x3 x4p x4l x4c x5 h (Lawful h0)) p0 sl cap (some ⟨q, 0, none⟩) p' l' c' (i : Int) ⟨sb, 0, none⟩ h' (Lawful h0)) S1 ha (by omega) (by omega) fun p' c' h' S' O' hp' => ?_
      · simp only [true_and] at er ⊢
        exact er
      refine check ⟨Q1.only O' (by simp), S', fun b hb hm => ?_, ?_, B1.nil O' (by simp), R.lo0, Nat.le_trans lo1 O'.size⟩ ?_ (A1.only O' (by simp))
      · have := hp' b hb
        have := (Q1.lt b hm).2
        omega
      · refine (List.perm_append_right_iff [atL M a]).1 ?_
        rw [same] at r1
        exact (r1.trans R.perm).trans (eraseIdx_perm ha).symm
      · rw [List.length_eraseIdx, if_pos ha]
        omega

def FindR (M : List It) (id x : Int) (j : Nat) : Prop := x = -1 ∧ (∀ k, k < j → (atL M k).1 ≠ id) ∨ ∃ a, a < M.length ∧ x = (a : Int) ∧ (atL M a).1 = id
theorem rplay_loop (hl : sl ≤ 100) (R0 : Recs h0 p0 sl 3 s) (f0 : ∀ i, i < sl → ∃ n, s i 0 = .int .i64 n) (f1 : ∀ i, i < sl → ∃ n, s i 1 = .int .i64 n) (f2 : ∀ i, i < sl → ∃ n, s i 2 = .int .i64 n) :
    ∀ (gas i : Nat), sl - i < gas → i ≤ sl → ∀ (h : Heap) (p : Option Addr) (c : Nat) (L : List It) (mp : Option Addr) (mc : Nat) (M : List It), RP h0 h lo q pi mb p c L mp mc M → M.length ≤ i →
      F12.wL8 gas p0 sl cap (some ⟨q, 0, none⟩) mp M.length mc (i : Int) h (Lawful h0) := by
  intro gas
  induction gas with
  | zero => intro i hg; omega
  | succ gas ih =>
    intro i hg hi h p c L mp mc M R hM
    unfold F12.wL8 F12.JL8
    by_cases hlt : i < sl
    · rw [decide_eq_true (by omega), bcase_true]
      obtain ⟨a, ea, r0⟩ := (R0.only R.base (by simp)) i 0 hlt (by omega)
      obtain ⟨a', ea', r1⟩ := (R0.only R.base (by simp)) i 1 hlt (by omega)
      obtain ⟨a2, ea2, r2⟩ := (R0.only R.base (by simp)) i 2 hlt (by omega)
      rw [ea] at ea' ea2
      injection ea' with ea'
      injection ea2 with ea2
      subst ea'
      subst ea2
      obtain ⟨w, hw⟩ := f0 i hlt
      obtain ⟨id, hid⟩ := f1 i hlt
      obtain ⟨key, hkey⟩ := f2 i hlt
      rw [hw] at r0
      rw [hid] at r1
      rw [hkey] at r2
      have step := fun (h1 : Heap) (sb : Nat) (x : Int) (R1 : RP h0 h1 lo q pi mb p c L mp mc M) (A1 : At h1 sb [.int .i64 w, .int .i64 id, .int .i64 key]) (u1 : sb ∉ q :: pi :: mb :: OwnB p) (u2 : sb ∉ OwnB mp) (hx : AtR M id x) => rplay_step (gas := gas) (p0 := p0) (cap := cap) (sl := sl) (i := i) (by omega) (fun h p c L mp mc M R hM => ih (i + 1) (by omega) (by omega) h p c L mp mc M R hM) R1 hM A1 u1 u2 hx
      rw [ea] at step ⊢
      simp only [ptrK_some, Int.toNat_natCast, add_add]
      refine ⟨by omega, by omega, ldI_of r0 (ldI_of r1 (ldI_of r2 (newK_at fun h1 A1 O1 z1 => ?_)))⟩
      simp only [add_mk, Nat.zero_add]
      refine stK_at A1 (by simp) rfl fun h2 A2 O2 z2 => stK_at A2 (by simp) rfl fun h3 A3 O3 z3 => stK_at A3 (by simp) rfl fun h4 A4 O4 z4 => ?_
      have O24 := (O2.trans O3 (by simp)).trans O4 (by simp)
      have R4 : RP h0 h4 lo q pi mb p c L mp mc M := R.only ((O1.nil O24 (by simp))) (by simp)
      have A4 : At h4 h.size [.int .i64 w, .int .i64 id, .int .i64 key] := A4
      have u1 : h.size ∉ q :: pi :: mb :: OwnB p := fun hb => by
        have := (R.qu.lt _ hb).2
        omega
      have u2 : h.size ∉ OwnB mp := fun hb => by
        have := (R.sl.lt _ hb).2
        omega
      unfold F12.wk13 F12.Jk13
      have find : ∀ (g j : Nat) (x : Int), M.length - j < g → j ≤ M.length → FindR M id x j →
          F12.wL13 (fun x0p x0l x0c x3 x4p x4l x4c x5 h => F12.wL8 gas x0p x0l x0c x3 x4p x4l x4c x5 h (Lawful h0)) g (some a) sl cap (some ⟨q, 0, none⟩) mp M.length mc (i : Int) ⟨h.size, 0, none⟩ x (j : Int) h4 (Lawful h0) := by
        intro g
        induction g with
        | zero => intro j x hg; omega
        | succ g ihg =>
          intro j x hg hj hx
          unfold F12.wL13 F12.JL13
          by_cases hjl : j < M.length
          · rw [decide_eq_true (by omega), bcase_true]
            rw [show IntKind.wrap .i64 ((j : Int) + 1) = ((j + 1 : Nat) : Int) by rw [wrap_i64 (by omega) (by omega)]; omega]
            obtain ⟨b, e1, e2⟩ := R4.sl.rd (j := j * 2) (by rw [flat_len]; omega)
            rw [flat_get0 hjl] at e2
            rw [e1]
            simp only [ptrK_some, add_mk, Nat.zero_add, Nat.add_zero, Int.toNat_natCast]
            refine ⟨by omega, by omega, ldI_of e2 (ldI_of (n := id) (by rw [A4.rd]; rfl) (bcase_of (fun e => ?_) fun e => ?_))⟩
            · have e : (atL M j).1 = id := by simpa using e
              have := ihg (j + 1) (j : Int) (by omega) (by omega) (Or.inr ⟨j, hjl, rfl, e⟩)
              rw [e1] at this
              exact this
            · have e : (atL M j).1 ≠ id := by simpa using e
              have := ihg (j + 1) x (by omega) (by omega) (by
                rcases hx with ⟨h1, h2⟩ | h1
                · refine Or.inl ⟨h1, fun k hk => ?_⟩
                  by_cases hkj : k = j
                  · rw [hkj]
                    exact e
                  · exact h2 k (by omega)
                · exact Or.inr h1)
              rw [e1] at this
              exact this
          · rw [decide_eq_false (by omega), bcase_false]
            obtain rfl : j = M.length := by omega
            refine step h4 h.size x R4 A4 u1 u2 ?_
            rcases hx with ⟨h1, h2⟩ | h1
            · exact Or.inl ⟨h1, fun ⟨k, hk, e⟩ => h2 k hk e⟩
            · exact Or.inr h1
      exact ⟨M.length + 1, find (M.length + 1) 0 (-1) (by omega) (by omega) (Or.inl ⟨rfl, fun k hk => by omega⟩)⟩
    · rw [decide_eq_false (by omega), bcase_false]
      exact ⟨rfl, R.base⟩
end

theorem rplay_law (h : Heap) (p : Option Addr) (c l : Nat) (s : Nat → Nat → Value) (R : Recs h p l 3 s) (_ : (l : Int) ≤ maxLen)
    (f0 : ∀ i, i < l → ∃ n, s i 0 = .int .i64 n ∧ IntKind.min .i64 ≤ n ∧ n ≤ IntKind.max .i64) (f1 : ∀ i, i < l → ∃ n, s i 1 = .int .i64 n ∧ IntKind.min .i64 ≤ n ∧ n ≤ IntKind.max .i64)
    (f2 : ∀ i, i < l → ∃ n, s i 2 = .int .i64 n ∧ IntKind.min .i64 ≤ n ∧ n ≤ IntKind.max .i64) :
    CallsH Try.prog 12 [.slice p l c] h (Lawful h) := by
  apply F12.spec
  unfold F12.w F12.J0
  refine known5 fun h1 O1 => ldB_of rfl ?_
  rw [Bool.not_true, bcase_false]
  refine bcase_of (fun _ => ⟨rfl, O1⟩) fun hl => ?_
  simp at hl
  refine qnew30 fun q pi mb h2 Q2 O2 => ldP_of rfl ?_
  unfold F12.wk8 F12.Jk8
  exact ⟨l + 1, rplay_loop (by omega) R (fun i hi => let ⟨n, e, _⟩ := f0 i hi; ⟨n, e⟩) (fun i hi => let ⟨n, e, _⟩ := f1 i hi; ⟨n, e⟩) (fun i hi => let ⟨n, e, _⟩ := f2 i hi; ⟨n, e⟩) (l + 1) 0 (by omega) (by omega) h2 none 0 [] none 0 [] ⟨Q2, Own.nil _ _ _, by simp [OwnB], List.Perm.refl _, O1.nil O2 (by simp), O1.size, O2.size⟩ (Nat.le_refl _)⟩
end Go.Proofs.Ytkdegjjenbbjfaa.Ev
