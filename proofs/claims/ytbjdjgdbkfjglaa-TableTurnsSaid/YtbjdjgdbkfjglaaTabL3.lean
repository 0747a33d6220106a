/- THE LAW OF A FINDER THAT STEPS ALONE (TableAlone). Conditions: none. -/
import Derived.Test.YtbjdjgdbkfjglaaTabE
import Derived.Test.YtbjdjgdbkfjglaaEvL
namespace Go.Proofs.Ytbjdjgdbkfjglaa.Ev
open Go

/-- a key of a number -/
def keyOf (z k : Int) : Int := IntKind.wrap .u64 (IntKind.wrap .u64 ((IntKind.wrap .i64 z).tmod k) + 1)
theorem keyOf_eq {z k : Int} (h : IntKind.min .u8 ≤ z ∧ z ≤ IntKind.max .u8) (hk : 0 < k) (hk2 : k < 1000) : keyOf z k = z.tmod k + 1 := by
  obtain ⟨a, b⟩ := tmod_fit h hk
  have h0 : 0 ≤ z := h.1
  have h1 : z ≤ 255 := h.2
  clear h
  unfold keyOf
  rw [wrap_i64 (n := z) (by omega) (by omega), wrap_u64 (n := z.tmod k) (by omega) (by omega), wrap_u64 (by omega) (by omega)]
theorem keyOf_nz {z k : Int} (h : IntKind.min .u8 ≤ z ∧ z ≤ IntKind.max .u8) (hk : 0 < k) (hk2 : k < 1000) : keyOf z k ≠ 0 := by
  rw [keyOf_eq h hk hk2]
  have := tmod_fit h hk
  omega
theorem key_spec {h : Heap} {z k : Int} {K : Value → Heap → Prop} (hk : k ≠ 0) (hK : K (.int .u64 (keyOf z k)) h) : CallsH Try.prog 15 [.int .u8 z, .int .i64 k] h K :=
  F15.spec _ _ _ _ ⟨hk, hK⟩

section
variable {h0 : Heap} {t m mc n : Nat} {p q : Option Addr} {cp cq : Nat} {ks ls : List Int}

theorem alone_loop (hr : ∀ z ∈ ks, IntKind.min .u8 ≤ z ∧ z ≤ IntKind.max .u8) (hrl : ∀ z ∈ ls, IntKind.min .u8 ≤ z ∧ z ≤ IntKind.max .u8) (hl : 1 ≤ ks.length) (hl2 : ks.length ≤ 10) (n8 : n ≤ 8) (hI : Ints h0 .u8 p ks) (hJ : Ints h0 .u8 q ls) (s1 : h0.size ≤ m) (s2 : h0.size ≤ mc) :
    ∀ (g i : Nat) (cs : List Int) (f : Option Addr) (c : Nat) (ps : List Value) (x : Nat) (X : Fi) (ops fails : Int) (h : Heap), ks.length - i < g → i ≤ ks.length → TInv 0 n cs → TW h t m mc 0 n cs ops fails →
      Own h h0.size 1 f i c ps → m ∉ OwnB f → mc ∉ OwnB f → t ∉ OwnB f → Only [] h0 h →
      (0 < i → ps[i - 1]? = some (.pointer (some ⟨x, 0, none⟩)) ∧ FindIs h x t X ∧ Fok 0 n cs X ∧ X.key = keyOf (ks.getD (i - 1) 0) 9 ∧ h0.size ≤ x ∧ x ≠ t ∧ x ≠ m ∧ x ≠ mc) →
      F3.wL12 g p ks.length cp q ls.length cq (n : Int) (some ⟨t, 0, none⟩) f i c (i : Int) h (Lawful h0) := by
  intro g
  induction g with
  | zero => intro i cs f c ps x X ops fails h hg; omega
  | succ g ih =>
    intro i cs f c ps x X ops fails h hg hi T W Q q1 q2 q3 O hX
    have hM : ∀ x ∈ [m, mc], h0.size ≤ x := by simp; omega
    have hn := W.hn
    unfold F3.wL12 F3.JL12
    by_cases hlt : i < ks.length
    · rw [decide_eq_true (by omega), bcase_true]
      have e1 : IntKind.wrap .i64 ((i : Int) + 1) = ((i + 1 : Nat) : Int) := by rw [wrap_i64 (by omega) (by omega)]; simp
      obtain ⟨a, rfl, ha⟩ := hI.only O (by simp) i hlt
      refine ⟨by omega, by omega, ?_⟩
      simp only [Int.toNat_natCast, Nat.mul_one, ha, ldI_some]
      refine key_spec (by decide) (ldI_of rfl (find_tw W fun x h1 X1 W1 O1 hx => ldP_of rfl ?_))
      have P1 := O.nil O1 (by simp)
      have lt := W.lt
      have so := O.size
      have lx := X1.lt
      refine newK_at fun h2 A2 O2 z2 => ?_
      have W2 := W1.only O2 (by simp) (by simp) (by simp)
      have P2 := P1.nil O2 (by simp)
      have so1 := O1.size
      have hxq : x ∉ OwnB f := fun hb => by have := (Q.lt x hb).2; omega
      refine own_app ((Q.only O1 (by simp)).only O2 (by simp)) A2 rfl rfl (by omega) (by simp [Value.oneCell']) (by omega) fun f' c' h3 Q3 O3 b3 => ?_
      have P3 := P2.nil O3 fun b hb => (Q.lt b hb).1
      have W3 := W2.only O3 q3 q1 q2
      have X3 := (X1.only O2 (by simp)).only O3 hxq
      have hf' : ∀ b ∈ OwnB f', b ≠ m ∧ b ≠ mc ∧ b ≠ t ∧ b ≠ x := by
        intro b hb
        rcases b3 b hb with hb | hb
        · exact ⟨fun e => q1 (e ▸ hb), fun e => q2 (e ▸ hb), fun e => q3 (e ▸ hb), fun e => hxq (e ▸ hb)⟩
        · omega
      have pl : ps.length = i := by have := Q.1; omega
      unfold F3.wk16 F3.Jk16
      have hS : ∀ y ∈ [x, m, mc], h0.size ≤ y := by simp; omega
      have steps : ∀ (g2 j : Nat) (cs' : List Int) (X' : Fi) (ops' fails' : Int) (h' : Heap), 5 - j < g2 → j ≤ 5 → TInv 0 n cs' → TW h' t m mc 0 n cs' ops' fails' → Own h' h0.size 1 f' (i + 1) c' (ps ++ [.pointer (some ⟨x, 0, none⟩)]) → Only [] h0 h' →
          FindIs h' x t X' → Fok 0 n cs' X' → X'.key = keyOf (ks.getD i 0) 9 →
          F3.wL16 (fun x1p x1l x1c x2p x2l x2c x7 x9 x11p x11l x11c x12 h => F3.wL12 g x1p x1l x1c x2p x2l x2c x7 x9 x11p x11l x11c x12 h (Lawful h0)) g2 (some a) ks.length cp q ls.length cq (n : Int) (some ⟨t, 0, none⟩) f' (i + 1) c' (i : Int) (j : Int) h' (Lawful h0) := by
        intro g2
        induction g2 with
        | zero => intro j cs' X' ops' fails' h' hj; omega
        | succ g2 ih2 =>
          intro j cs' X' ops' fails' h' hj hj5 T' W' Q' P' HX kX hk
          have next : F3.wL12 g (some a) ks.length cp q ls.length cq (n : Int) (some ⟨t, 0, none⟩) f' (i + 1) c' (IntKind.wrap .i64 ((i : Int) + 1)) h' (Lawful h0) := by
            rw [e1]
            refine ih (i + 1) cs' f' c' _ x X' ops' fails' h' (by omega) (by omega) T' W' Q' (fun hb => (hf' _ hb).1 rfl) (fun hb => (hf' _ hb).2.1 rfl) (fun hb => (hf' _ hb).2.2.1 rfl) P' fun _ => ⟨?_, HX, kX, hk, by omega, by omega, by omega, by omega⟩
            rw [Nat.add_sub_cancel, List.getElem?_append_right (by omega)]
            simp [pl]
          unfold F3.wL16 F3.JL16
          refine bcase_of (fun e => ?_) fun _ => next
          have hil : i < ls.length := by have := of_decide_eq_true e; omega
          obtain ⟨a', rfl, ha'⟩ := hJ.only P' (by simp) i hil
          refine ⟨by omega, by omega, ?_⟩
          simp only [Int.toNat_natCast, Nat.mul_one, ha', ldI_some]
          obtain ⟨w0, w1⟩ := tmod_fit (range_getD hrl hil) (by omega : (0 : Int) < 5)
          rw [wrap_i64 (n := (ls.getD i 0).tmod 5) (by omega) (by omega)]
          refine ⟨by decide, bcase_of (fun e => ?_) fun _ => next⟩
          have hj' : j < 5 := by have := of_decide_eq_true e; omega
          obtain ⟨b, hb, hrd⟩ := Q'.rd (j := i) (by simp [pl])
          subst hb
          refine ⟨by omega, by omega, ?_⟩
          simp only [add_mk, Nat.zero_add]
          refine ldP_of (n := some ⟨x, 0, none⟩) (by rw [hrd, List.getElem?_append_right (by omega)]; simp [pl]) ?_
          refine step_tw W' HX kX (by omega) (by omega) (by omega) fun h4 fails4 H4 W4 O4 => ldB_of rfl ?_
          obtain ⟨T4, k4, _, e4, _⟩ := step_ok W'.hn W'.hc T' kX
          rw [show IntKind.wrap .i64 ((j : Int) + 1) = ((j + 1 : Nat) : Int) by rw [wrap_i64 (by omega) (by omega)]; simp]
          refine ih2 (j + 1) _ _ _ _ h4 (by omega) (by omega) T4 W4 (Q'.only O4 ?_) (P'.nil O4 hS) H4 k4 (e4.trans hk)
          intro b' hb'
          injection hb' with hb'
          injection hb' with hb'
          subst hb'
          obtain ⟨z1, z2, z3, z4⟩ := hf' b (by simp [OwnB])
          simp [z1, z2, z4]
      exact ⟨6, steps 6 0 cs (newFi _ n) ops fails h3 (by omega) (by omega) T W3 Q3 P3 X3 (newFi_ok hn) rfl⟩
    · rw [decide_eq_false (by omega), bcase_false]
      obtain rfl : i = ks.length := by omega
      obtain ⟨hp, HX, kX, hk, hx0, x1, x2, x3⟩ := hX (by omega)
      unfold F3.wk19 F3.Jk19
      have pl : ps.length = ks.length := by have := Q.1; omega
      obtain ⟨b, hb, hrd⟩ := Q.rd (j := ks.length - 1) (by omega)
      subst hb
      have e9 : IntKind.wrap .i64 ((ks.length : Int) - 1) = ((ks.length - 1 : Nat) : Int) := by rw [wrap_i64 (by omega) (by omega)]; omega
      have e3 : IntKind.wrap .i64 (IntKind.wrap .i64 (3 * (n : Int)) + 3) = 3 * (n : Int) + 3 := by rw [wrap_i64 (n := 3 * (n : Int)) (by omega) (by omega), wrap_i64 (by omega) (by omega)]
      refine ⟨by rw [e9]; omega, by rw [e9]; omega, ?_⟩
      simp only [e9, Int.toNat_natCast, Nat.mul_one, add_mk, Nat.zero_add]
      refine ldP_of (by rw [hrd]; exact hp) ?_
      unfold F3.wk21 F3.Jk21
      have hS : ∀ y ∈ [x, m, mc], h0.size ≤ y := by simp; omega
      have hkr := range_getD hr (i := ks.length - 1) (by omega)
      have hknz : X.key ≠ 0 := by rw [hk]; exact keyOf_nz hkr (by decide) (by decide)
      have last : ∀ (g2 j : Nat) (cs' : List Int) (X' : Fi) (ops' fails' : Int) (h' : Heap), pot 0 cs' X' < g2 → j + pot 0 cs' X' ≤ 3 * n → TInv 0 n cs' → TW h' t m mc 0 n cs' ops' fails' → Only [] h0 h' →
          FindIs h' x t X' → Fok 0 n cs' X' → X'.key = X.key →
          F3.wL21 g2 p ks.length cp (n : Int) (some ⟨t, 0, none⟩) (some ⟨x, 0, none⟩) (j : Int) h' (Lawful h0) := by
        intro g2
        induction g2 with
        | zero => intro j cs' X' ops' fails' h' hj; omega
        | succ g2 ih2 =>
          intro j cs' X' ops' fails' h' hj hj3 T' W' P' HX' kX' hk'
          unfold F3.wL21 F3.JL21
          refine done_spec HX' (ldB_of rfl ?_)
          cases hd : X'.done with
          | false =>
            rw [Bool.not_false, bcase_true, e3, decide_eq_true (by omega), bcase_true]
            refine step_tw W' HX' kX' x1 x2 x3 fun h4 fails4 H4 W4 O4 => ldB_of rfl ?_
            obtain ⟨T4, k4, _, e4, _⟩ := step_ok W'.hn W'.hc T' kX'
            have := pot_step kX' hd
            rw [show IntKind.wrap .i64 ((j : Int) + 1) = ((j + 1 : Nat) : Int) by rw [wrap_i64 (by omega) (by omega)]; simp]
            exact ih2 (j + 1) _ _ _ _ h4 (by omega) (by omega) T4 W4 (P'.nil O4 hS) H4 k4 (e4.trans hk')
          | true =>
            rw [Bool.not_true, bcase_false]
            unfold F3.wk24 F3.Jk24
            refine slot_spec HX' ⟨_, _, rfl, done_spec HX' (ldB_of rfl ?_)⟩
            rw [hd, bcase_true]
            rcases kX'.ended hd with ⟨z, _⟩ | ⟨_, e, y, hy, es, ey⟩ | ⟨_, e, _, _, full⟩
            · exact absurd (hk' ▸ z) hknz
            · obtain ⟨a, rfl, ha⟩ := hI.only P' (by simp) (ks.length - 1) (by omega)
              rw [e, es, show ((0 : Int) == 0) = true from rfl, bcase_true, e9]
              refine ⟨by omega, by omega, ?_⟩
              simp only [Int.toNat_natCast, Nat.mul_one, ha, ldI_some]
              refine at_tw W' hy fun h5 W5 O5 => ldI_of rfl ⟨by trivial, by trivial, by trivial, by trivial, by omega, by omega, by trivial, ?_⟩
              have P5 := P'.nil O5 hM
              obtain ⟨a', e', ha'⟩ := hI.only P5 (by simp) (ks.length - 1) (by omega)
              injection e' with e'
              subst e'
              refine ldI_of (by first | rfl | exact ha') ⟨rfl, key_spec (by decide) (ldI_of rfl ?_)⟩
              rw [ey, hk', hk, BEq.rfl, bcase_true]
              exact ⟨rfl, rfl, P5⟩
            · rw [e, show ((60 : Int) == 0) = false from rfl, bcase_false, show ((60 : Int) == 60) = true from rfl, bcase_true]
              refine ⟨rfl, rfl, rfl, rfl, rfl, rfl, len_tw W' fun h5 ops5 W5 O5 => ldI_of rfl ⟨rfl, ?_⟩⟩
              rw [cnt_full n fun i hi => (full i hi).1, BEq.rfl]
              exact ⟨rfl, P'.nil O5 hM⟩
      have hp3 : pot 0 cs X ≤ 3 * n := by
        cases hd : X.done with
        | true => rw [pot_of_done hd]; omega
        | false =>
          have := kX.left
          have := (kX.going hd).2.1
          cases hcl : X.claims with
          | true => rw [pot_of_claims hd hcl]; omega
          | false =>
            have := (pot_le (base := 0) (cs := cs) hd hcl).1
            omega
      exact ⟨3 * n + 1, last (3 * n + 1) 0 cs X ops fails h (by omega) (by omega) T W O HX kX rfl⟩
end

theorem alone_law (h : Heap) (v : Int) (hv : IntKind.min .u8 ≤ v ∧ v ≤ IntKind.max .u8) (p : Option Addr) (c : Nat) (ks : List Int) (hI : Ints h .u8 p ks) (hr : ∀ z ∈ ks, IntKind.min .u8 ≤ z ∧ z ≤ IntKind.max .u8) (_ : (ks.length : Int) ≤ maxLen)
    (q : Option Addr) (d : Nat) (ls : List Int) (hJ : Ints h .u8 q ls) (hrl : ∀ z ∈ ls, IntKind.min .u8 ≤ z ∧ z ≤ IntKind.max .u8) (_ : (ls.length : Int) ≤ maxLen) :
    CallsH Try.prog 3 [.int .u8 v, .slice p ks.length c, .slice q ls.length d] h (Lawful h) := by
  apply F3.spec
  unfold F3.w F3.J0
  refine known6 fun h1 O1 => ldB_of rfl ?_
  rw [Bool.not_true, bcase_false]
  refine bcase_of (fun _ => ⟨rfl, O1⟩) fun hl => bcase_of (fun _ => ⟨rfl, O1⟩) fun hl2 => ?_
  simp at hl hl2
  have hl' : 1 ≤ ks.length := by
    cases ks with
    | nil => simp at hl
    | cons _ _ => simp
  obtain ⟨w0, w1⟩ := tmod_fit hv (by omega : (0 : Int) < 8)
  obtain ⟨k, hk⟩ : ∃ k : Nat, v.tmod 8 = k := ⟨(v.tmod 8).toNat, by omega⟩
  rw [hk] at w0 w1 ⊢
  have f1 : IntKind.wrap .i64 (k : Int) = k := wrap_i64 (by omega) (by omega)
  have f2 : IntKind.wrap .i64 ((k : Int) + 1) = ((k + 1 : Nat) : Int) := by
    rw [wrap_i64 (by omega) (by omega)]
    simp
  rw [f1, f2]
  refine ⟨by decide, new_spec fun m mc h2 M2 O2 hm hc => ldP_of rfl ?_⟩
  have el : cellsFor ((k + 1 : Nat) : Int) = k + 1 := cellsFor_of (by omega)
  rw [el] at M2
  refine tabnew_spec (base := 0) (n := k + 1) M2 (by omega) (by simp) (by simp; omega) fun t h3 T3 O3 ht => ⟨_, _, rfl, ?_⟩
  rw [show ((0 : Int) != 0) = false from rfl, bcase_false]
  have lm := M2.head.lt
  have lc := M2.body.lt
  have := O1.size
  have := O2.size
  have hz : ∀ x, x < k + 1 → cell 0 (List.replicate (k + 1) (0 : Int)) x = 0 := by
    intro x hx
    unfold cell
    simp [List.getD, show x < k + 1 from hx]
  have W3 : TW h3 t m mc 0 (k + 1) (List.replicate (k + 1) 0) 0 0 := ⟨T3, M2.only O3 (by simp) (by simp), by omega, by omega, by omega, by omega, by omega, by simp⟩
  unfold F3.wk12 F3.Jk12
  exact ⟨ks.length + 1, alone_loop hr hrl hl' (by omega) (by omega) hI hJ (by omega) (by omega) (ks.length + 1) 0 _ none 0 [] 0 (newFi 0 1) 0 0 h3 (by omega) (by omega) (TInv.empty hz) W3 (Own.nil _ _ _) (by simp [OwnB]) (by simp [OwnB]) (by simp [OwnB]) ((O1.nil O2 (by simp)).nil O3 (by simp)) (fun h => by omega)⟩
end Go.Proofs.Ytbjdjgdbkfjglaa.Ev
