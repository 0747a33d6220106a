/- THE LAW OF UNLIKE KEYS (TableEach). Conditions: none. -/
import Derived.Test.YtbjdjgdbkfjglaaTabE
namespace Go.Proofs.Ytbjdjgdbkfjglaa.Ev
open Go

theorem nat_or_one (n : Nat) : n ||| 1 = 2 * (n / 2) + 1 := by
  apply Nat.eq_of_testBit_eq
  intro i
  cases i with
  | zero => simp [Nat.testBit_zero]
  | succ i =>
    rw [Nat.testBit_or, Nat.testBit_succ, Nat.testBit_succ, Nat.testBit_succ]
    rw [show (2 * (n / 2) + 1) / 2 = n / 2 by omega, show 1 / 2 = 0 by omega]
    simp
theorem or_one {x : Int} (h0 : 0 ≤ x) (h1 : x < 18446744073709551616) : bitsI .or .u64 x 1 = 2 * (x / 2) + 1 := by
  have e : (BitVec.ofInt 64 x ||| BitVec.ofInt 64 1).toNat = x.toNat ||| 1 := by
    rw [BitVec.toNat_or, show (BitVec.ofInt 64 1).toNat = 1 from rfl, show (BitVec.ofInt 64 x).toNat = x.toNat by
      rw [BitVec.toNat_ofInt]
      congr 1
      omega]
  show IntKind.wrap .u64 (((BitVec.ofInt 64 x ||| BitVec.ofInt 64 1).toNat : Nat) : Int) = _
  rw [e, nat_or_one, wrap_u64 (by omega) (by omega)]
  omega
theorem odd_odd (u i : Nat) : ((2 * u + 1) * (2 * i + 1)) % 2 = 1 := by
  rw [Nat.mul_mod, show (2 * u + 1) % 2 = 1 by omega, show (2 * i + 1) % 2 = 1 by omega]
/-- the keys: odd numbers, unlike -/
def ekey (s : Int) (i : Nat) : Int := bitsI .or .u64 (IntKind.wrap .u64 ((bitsI .or .u64 s 1) * (2 * (i : Int) + 1))) 1
theorem ekey_eq {s : Int} (h0 : 0 ≤ s) (h1 : s < 18446744073709551616) (i : Nat) : ekey s i = (((2 * (s.toNat / 2) + 1) * (2 * i + 1) % 18446744073709551616 : Nat) : Int) := by
  unfold ekey
  have hw := wrapu_range ((bitsI .or .u64 s 1) * (2 * (i : Int) + 1))
  rw [or_one hw.1 hw.2, wrap_u64', or_one h0 h1]
  have e : (2 * (s / 2) + 1) * (2 * (i : Int) + 1) = (((2 * (s.toNat / 2) + 1) * (2 * i + 1) : Nat) : Int) := by
    rw [Int.natCast_mul]
    congr 1
    omega
  rw [e]
  have odd := odd_odd (s.toNat / 2) i
  generalize (2 * (s.toNat / 2) + 1) * (2 * i + 1) = X at *
  omega
theorem ekey_nz {s : Int} (h0 : 0 ≤ s) (h1 : s < 18446744073709551616) (i : Nat) : ekey s i ≠ 0 := by
  rw [ekey_eq h0 h1]
  have odd := odd_odd (s.toNat / 2) i
  generalize (2 * (s.toNat / 2) + 1) * (2 * i + 1) = X at *
  omega
theorem ekey_inj {s : Int} (h0 : 0 ≤ s) (h1 : s < 18446744073709551616) {i j : Nat} (hij : i < j) (hj : j < 1000) : ekey s i ≠ ekey s j := by
  rw [ekey_eq h0 h1, ekey_eq h0 h1]
  intro e
  have e : (2 * (s.toNat / 2) + 1) * (2 * i + 1) % 18446744073709551616 = (2 * (s.toNat / 2) + 1) * (2 * j + 1) % 18446744073709551616 := by exact_mod_cast e
  have d := Nat.sub_mod_eq_zero_of_mod_eq e.symm
  rw [← Nat.mul_sub, show 2 * j + 1 - (2 * i + 1) = 2 * (j - i) by omega] at d
  have d := Nat.dvd_of_mod_eq_zero d
  have c : Nat.Coprime 18446744073709551616 (2 * (s.toNat / 2) + 1) := by
    rw [show (18446744073709551616 : Nat) = 2 ^ 64 by decide]
    apply Nat.Coprime.pow_left
    unfold Nat.Coprime
    rw [Nat.gcd_rec, show (2 * (s.toNat / 2) + 1) % 2 = 1 by omega, Nat.gcd_one_left]
  have d := c.dvd_of_dvd_mul_left d
  have := Nat.le_of_dvd (by omega) d
  omega

theorem cnt_lt {base : Nat} {cs : List Int} : ∀ m, cnt base cs m = m → ∀ i, i < m → cell base cs i ≠ 0 := by
  intro m
  induction m with
  | zero => intro _ i hi; omega
  | succ m ih =>
    intro h i hi
    unfold cnt at h
    have := cnt_le base cs m
    by_cases hz : cell base cs m = 0
    · rw [if_pos hz] at h; omega
    · rw [if_neg hz] at h
      by_cases h' : i = m
      · rw [h']; exact hz
      · exact ih (by omega) i (by omega)

section
variable {h0 : Heap} {s : Int} {t m mc n : Nat}
/-- the keys so far -/
def EInv (n : Nat) (s : Int) (cs : List Int) (i : Nat) : Prop := TInv 0 n cs ∧ cnt 0 cs n = i ∧ ∀ x, x < n → cell 0 cs x ≠ 0 → ∃ j, j < i ∧ cell 0 cs x = ekey s j

theorem each_loop (hs0 : 0 ≤ s) (hs1 : s < 18446744073709551616) (hn20 : n ≤ 20) (s1 : h0.size ≤ m) (s2 : h0.size ≤ mc) :
    ∀ (g i : Nat) (cs : List Int) (ops fails : Int) (h : Heap), n + 1 - i < g → i ≤ n → EInv n s cs i → TW h t m mc 0 n cs ops fails → Only [] h0 h →
      F4.wL9 g s (n : Int) (some ⟨t, 0, none⟩) (i : Int) h (Lawful h0) := by
  intro g
  induction g with
  | zero => intro i cs ops fails h hg; omega
  | succ g ih =>
    intro i cs ops fails h hg hi ⟨T, hcnt, hks⟩ W O
    unfold F4.wL9 F4.JL9
    rw [decide_eq_true (by omega), bcase_true]
    rw [show IntKind.wrap .u64 (IntKind.wrap .i64 (IntKind.wrap .i64 (2 * (i : Int)) + 1)) = 2 * (i : Int) + 1 by
      rw [wrap_i64 (n := 2 * (i : Int)) (by omega) (by omega), wrap_i64 (by omega) (by omega), wrap_u64 (by omega) (by omega)]]
    rw [show bitsI .or .u64 (IntKind.wrap .u64 ((bitsI .or .u64 s 1) * (2 * (i : Int) + 1))) 1 = ekey s i from rfl]
    have hn := W.hn
    refine find_tw W fun f h1 H1 W1 O1 hf => ldP_of rfl ?_
    have P1 := O.nil O1 (by simp)
    have lt := W.lt
    have hS : ∀ x ∈ [f, m, mc], h0.size ≤ x := by have := O.size; simp; omega
    have hM : ∀ x ∈ [m, mc], h0.size ≤ x := by simp; omega
    have d1 : f ≠ t := by omega
    have d2 : f ≠ m := by omega
    have d3 : f ≠ mc := by omega
    have e3 : IntKind.wrap .i64 (IntKind.wrap .i64 (3 * (n : Int)) + 3) = 3 * (n : Int) + 3 := by rw [wrap_i64 (n := 3 * (n : Int)) (by omega) (by omega), wrap_i64 (by omega) (by omega)]
    have ek := ekey_nz hs0 hs1 i
    -- behind the finder's run
    have hend : ∀ (cs' : List Int) (ops' fails' : Int) (F : Fi) (h' : Heap), F.done = true → F.key = ekey s i → Run 0 n cs cs' F → FindIs h' f t F → TW h' t m mc 0 n cs' ops' fails' → Only [] h0 h' →
        F4.wk16 (fun x1 x5 x7 x9 h => F4.wL9 g x1 x5 x7 x9 h (Lawful h0)) s (n : Int) (some ⟨t, 0, none⟩) (i : Int) (ekey s i) (some ⟨f, 0, none⟩) h' (Lawful h0) := by
      intro cs' ops' fails' F h' hd hk R H' W' P'
      obtain ⟨ok, T', G, D⟩ := R
      unfold F4.wk16 F4.Jk16
      refine slot_spec H' ⟨_, _, rfl, ?_⟩
      have nokey : ∀ x, x < n → cell 0 cs x ≠ ekey s i := by
        intro x hx e
        obtain ⟨j, hj, e'⟩ := hks x hx (by rw [e]; exact ek)
        exact ekey_inj hs0 hs1 hj (by omega) (e'.symm.trans e)
      by_cases hin : i = n
      · subst hin
        rw [show ((i : Int) == (i : Int)) = true by simp, bcase_true]
        have full := cnt_lt i hcnt
        refine done_spec H' (ldB_of rfl ?_)
        rw [hd, bcase_true]
        rcases D with ⟨dm, dc⟩ | ⟨_, _, _, _, x, hx, _, hz, _⟩
        · subst dc
          rcases ok.ended hd with ⟨a, _⟩ | ⟨_, _, x, hx, _, e⟩ | ⟨_, b, c, _, _⟩
          · exact absurd (hk ▸ a) ek
          · exact absurd (hk ▸ e) (nokey x hx)
          · rw [b, c, show ((60 : Int) == 60) = true from rfl, bcase_true, show ((-1 : Int) == -1) = true from rfl, bcase_true]
            refine len_tw W' fun h2 ops2 W2 O2 => ldI_of rfl ?_
            rw [hcnt, BEq.rfl]
            exact ⟨rfl, P'.nil O2 hM⟩
        · exact absurd hz (full x hx)
      · rw [show ((i : Int) == (n : Int)) = false by simpa using fun e : (i : Int) = n => hin (by omega), bcase_false]
        refine done_spec H' (ldB_of rfl ?_)
        rw [hd, Bool.not_true, bcase_false]
        rcases D with ⟨dm, dc⟩ | ⟨dm, _, de, _, x, hx, hslot, hz, habs, hset⟩
        · subst dc
          rcases ok.ended hd with ⟨a, _⟩ | ⟨_, _, x, hx, _, e⟩ | ⟨_, _, _, _, e⟩
          · exact absurd (hk ▸ a) ek
          · exact absurd (hk ▸ e) (nokey x hx)
          · have := cnt_full n fun x hx => (e x hx).1
            omega
        · rw [de, hslot, show ((0 : Int) != 0) = false from rfl, bcase_false]
          have hlen : 0 + x < cs.length := by have := W.hc; omega
          have hc' : cell 0 cs' x = ekey s i := by rw [hset, cell_set hlen, if_pos rfl, hk]
          have hcnt' : cnt 0 cs' n = i + 1 := by rw [hset, cnt_set (by rw [hk]; exact ek) hz hlen, if_pos hx, hcnt]
          refine at_tw W' hx fun h2 W2 O2 => ldI_of rfl ?_
          have H2 := H'.only O2 (by simp [d2, d3])
          rw [hc', bne_self_eq_false, bcase_false]
          refine made_spec H2 (ldB_of rfl ?_)
          rw [dm, Bool.not_true, bcase_false]
          refine len_tw W2 fun h3 ops3 W3 O3 => ldI_of rfl ?_
          have P3 := (P'.nil O2 hM).nil O3 hM
          have e4 : IntKind.wrap .i64 ((i : Int) + 1) = ((i + 1 : Nat) : Int) := by rw [wrap_i64 (by omega) (by omega)]; simp
          rw [hcnt', e4, bne_self_eq_false, bcase_false]
          refine has_tw W3 (fun y h4 ops4 _ hy ey W4 O4 => ?_) (fun h4 ops4 hno W4 O4 => ?_)
          · refine ⟨_, _, rfl, ?_⟩
            have : y = x := T'.uniq hy hx (by rw [ey]; exact ek) (by rw [ey, hc'])
            subst this
            rw [Bool.not_true, bcase_false, bne_self_eq_false, bcase_false]
            refine ih (i + 1) cs' ops4 fails' h4 (by omega) (by omega) ⟨T', hcnt', fun z hz' hnz => ?_⟩ W4 (P3.nil O4 hM)
            rw [hset, cell_set hlen] at hnz ⊢
            by_cases h' : z = y
            · rw [if_pos h', hk]
              exact ⟨i, by omega, rfl⟩
            · rw [if_neg h'] at hnz ⊢
              obtain ⟨j, hj, e⟩ := hks z hz' hnz
              exact ⟨j, by omega, e⟩
          · exact absurd hc' ((hno.resolve_left ek) x hx)
    -- the run
    have run : ∀ (g2 j : Nat) (cs' : List Int) (ops' fails' : Int) (F : Fi) (h' : Heap), pot 0 cs' F < g2 → j + pot 0 cs' F ≤ 3 * n → F.key = ekey s i → Run 0 n cs cs' F → FindIs h' f t F → TW h' t m mc 0 n cs' ops' fails' → Only [] h0 h' →
        F4.wL14 (fun x1 x5 x7 x9 h => F4.wL9 g x1 x5 x7 x9 h (Lawful h0)) g2 s (n : Int) (some ⟨t, 0, none⟩) (i : Int) (ekey s i) (some ⟨f, 0, none⟩) (j : Int) h' (Lawful h0) := by
      intro g2
      induction g2 with
      | zero => intro j cs' ops' fails' F h' hp; omega
      | succ g2 ih2 =>
        intro j cs' ops' fails' F h' hp hj hk R H' W' P'
        unfold F4.wL14 F4.JL14
        rw [e3, decide_eq_true (by omega), bcase_true]
        refine step_tw W' H' R.1 d1 d2 d3 fun h2 fails2 H2 W2 O2 => ldB_of rfl ?_
        have P2 := P'.nil O2 hS
        obtain ⟨R2, k2⟩ := R.step hn W'.hc
        by_cases hd : (stepF 0 n cs' F).1.done = true
        · rw [hd, Bool.not_true, bcase_false]
          exact hend _ _ _ _ h2 hd (k2.trans hk) R2 H2 W2 P2
        · have hd' : (stepF 0 n cs' F).1.done = false := by simpa using hd
          rw [hd', Bool.not_false, bcase_true, show IntKind.wrap .i64 ((j : Int) + 1) = ((j + 1 : Nat) : Int) by rw [wrap_i64 (by omega) (by omega)]; simp]
          have hF : F.done = false := by
            cases hF : F.done with
            | false => rfl
            | true =>
              have e : stepF 0 n cs' F = (F, cs') := by unfold stepF; rw [if_pos hF]
              rw [e] at hd
              exact absurd hF hd
          have := pot_step R.1 hF
          exact ih2 (j + 1) _ _ _ _ h2 (by omega) (by omega) (k2.trans hk) R2 H2 W2 P2
    unfold F4.wk14 F4.Jk14
    have := pot_new (base := 0) (cs := cs) (key := ekey s i) hn
    exact ⟨3 * n + 1, run (3 * n + 1) 0 cs ops fails (newFi (ekey s i) n) h1 (by omega) (by omega) rfl (Run.new hn T) H1 W1 P1⟩
end

theorem each_law (h : Heap) (v : Int) (hv : IntKind.min .u8 ≤ v ∧ v ≤ IntKind.max .u8) (s : Int) (hs : IntKind.min .u64 ≤ s ∧ s ≤ IntKind.max .u64) :
    CallsH Try.prog 4 [.int .u8 v, .int .u64 s] h (Lawful h) := by
  have hs0 : 0 ≤ s := hs.1
  have hs1 : s < 18446744073709551616 := Int.lt_of_le_of_lt hs.2 (by decide)
  clear hs
  apply F4.spec
  unfold F4.w F4.J0
  refine known6 fun h1 O1 => ldB_of rfl ?_
  rw [Bool.not_true, bcase_false]
  obtain ⟨w0, w1⟩ := tmod_fit hv (by omega : (0 : Int) < 20)
  obtain ⟨k, hk⟩ : ∃ k : Nat, v.tmod 20 = k := ⟨(v.tmod 20).toNat, by omega⟩
  rw [hk] at w0 w1 ⊢
  have f1 : IntKind.wrap .i64 (k : Int) = k := wrap_i64 (by omega) (by omega)
  have f2 : IntKind.wrap .i64 ((k : Int) + 1) = ((k + 1 : Nat) : Int) := by
    rw [wrap_i64 (by omega) (by omega)]
    simp
  rw [f1, f2]
  refine ⟨by decide, new_spec fun m mc h2 M2 O2 hm hc => ldP_of rfl ?_⟩
  have el : cellsFor ((k + 1 : Nat) : Int) = k + 1 := cellsFor_of (by omega)
  rw [el] at M2
  refine tabnew_spec (base := 0) (n := k + 1) M2 (by omega) (by simp) (by simp; omega) fun t h3 T3 O3 ht => ⟨_, _, rfl, ?_⟩
  rw [show ((0 : Int) != 0) = false from rfl, bcase_false]
  have lm := M2.head.lt
  have lc := M2.body.lt
  have := O1.size
  have := O2.size
  have hz : ∀ x, x < k + 1 → cell 0 (List.replicate (k + 1) (0 : Int)) x = 0 := by
    intro x hx
    unfold cell
    simp [List.getD, show x < k + 1 from hx]
  have W3 : TW h3 t m mc 0 (k + 1) (List.replicate (k + 1) 0) 0 0 := ⟨T3, M2.only O3 (by simp) (by simp), by omega, by omega, by omega, by omega, by omega, by simp⟩
  unfold F4.wk9 F4.Jk9
  exact ⟨k + 1 + 2, each_loop hs0 hs1 (by omega) (by omega) (by omega) (k + 1 + 2) 0 _ 0 0 h3 (by omega) (by omega) ⟨TInv.empty hz, cnt_zero _ hz, fun x hx hnz => absurd (hz x hx) hnz⟩ W3 ((O1.nil O2 (by simp)).nil O3 (by simp))⟩
end Go.Proofs.Ytbjdjgdbkfjglaa.Ev
