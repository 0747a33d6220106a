/- THE CACHE's LAWS: clearing, the self-test, the law of cells (CacheCells). Conditions: none. -/
import Derived.Test.YtbjdjgdbkfjglaaCacP
namespace Go.Proofs.Ytbjdjgdbkfjglaa.Ev
open Go

section
variable {h0 h : Heap} {f c m mc base n : Nat} {cs : List Int} {ops fails : Int} {K : Value → Heap → Prop} {key val : Int}

theorem clear_cw (W : CW h c m mc base n cs ops fails) (hb : base < 100000) (hv : ∀ l, l < n → 0 ≤ cs.getD (base + 3 * l) 0 ∧ cs.getD (base + 3 * l) 0 < 9223372036854775808 ∧ cs.getD (base + 3 * l) 0 % 2 = 0)
    (hK : ∀ h' ops' fails' cs', (∀ l, l < n → 0 ≤ cs'.getD (base + 3 * l) 0 ∧ cs'.getD (base + 3 * l) 0 < 18446744073709551616 ∧ cs'.getD (base + 3 * l) 0 % 4 = 0) → CW h' c m mc base n cs' ops' fails' → Only [m, mc] h h' → K (.tuple #[]) h') :
    CallsH Try.prog 33 [.pointer (some ⟨c, 0, none⟩)] h K := by
  apply F33.spec
  unfold F33.w F33.J0
  simp only [add_mk, Nat.zero_add]
  refine ldI_of (n := (n : Int)) (by rw [At.rd W.cac]; rfl) ?_
  unfold F33.wk1 F33.Jk1
  have hn2 := W.hn2
  have : ∀ (g i : Nat) (h1 : Heap) (cs1 : List Int) (ops1 fails1 : Int), n - i < g → i ≤ n → (∀ l, l < i → 0 ≤ cs1.getD (base + 3 * l) 0 ∧ cs1.getD (base + 3 * l) 0 < 18446744073709551616 ∧ cs1.getD (base + 3 * l) 0 % 4 = 0) →
      (∀ l, i ≤ l → l < n → cs1.getD (base + 3 * l) 0 = cs.getD (base + 3 * l) 0) → CW h1 c m mc base n cs1 ops1 fails1 → Only [m, mc] h h1 → F33.wL1 g ⟨c, 0, none⟩ (n : Int) (i : Int) h1 K := by
    intro g
    induction g with
    | zero => intro i h1 cs1 ops1 fails1 hg; omega
    | succ g ih =>
      intro i h1 cs1 ops1 fails1 hg hi z1 z2 W1 O1
      unfold F33.wL1 F33.JL1
      by_cases hlt : i < n
      · rw [decide_eq_true (by omega), bcase_true]
        simp only [add_mk, Nat.zero_add]
        have hc := W1.hc
        have ei : IntKind.wrap .i64 ((i : Int) + 1) = ((i + 1 : Nat) : Int) := by rw [wrap_i64 (by omega) (by omega)]; simp
        have ea : IntKind.wrap .i64 ((base : Int) + IntKind.wrap .i64 (3 * (i : Int))) = ((base + 3 * i : Nat) : Int) := by
          rw [wrap_i64 (n := 3 * (i : Int)) (by omega) (by omega), wrap_i64 (by omega) (by omega)]
          simp
        refine ldI_of (n := (base : Int)) (by rw [At.rd W1.cac]; rfl) (ldP_of (by rw [At.rd W1.cac]; rfl) ?_)
        rw [ea, ei]
        refine load_in W1.mem (by omega) (by omega) fun h2 M2 O2 => ldI_of rfl ?_
        rw [Int.toNat_natCast, z2 i (Nat.le_refl _) hlt]
        obtain ⟨v0, v1, v2⟩ := hv i hlt
        have hz2 := z2 i (Nat.le_refl _) hlt
        generalize cs.getD (base + 3 * i) 0 = V at *
        have O12 := O1.trans O2 fun b hb _ => hb
        have W2 : CW h2 c m mc base n cs1 _ fails1 := ⟨W1.cac.only O2 (by simp [W1.d4, W1.d5]), M2, W1.d4, W1.d5, W1.hn, W1.hn2, W1.hc, W1.hl⟩
        rw [and_one v0 (by omega), show (V % 2 == 0) = true by simpa using v2, bcase_true]
        refine bcase_of (fun e => ?_) fun e => ?_
        · refine ldP_of (by rw [At.rd W2.cac]; rfl) (cas_in M2 (by omega) (by omega) (fun e' h3 M3 O3 => ldB_of rfl ?_) fun e' => ?_)
          · rw [Int.toNat_natCast, andnot_two v0 (by omega), wrap_u64 (by omega) (by omega)] at M3
            have W3 : CW h3 c m mc base n (cs1.set (base + 3 * i) (4 * (V / 4) + V % 2 + 4)) _ fails1 := ⟨W2.cac.only O3 (by simp [W1.d4, W1.d5]), M3, W1.d4, W1.d5, W1.hn, W1.hn2, by simpa using W1.hc, by simpa using W1.hl⟩
            refine ih (i + 1) h3 _ _ _ (by omega) (by omega) (fun l hl => ?_) (fun l hl hln => ?_) W3 (O12.trans O3 fun b hb _ => hb)
            · rw [getD_set (by omega)]
              by_cases h' : l = i
              · subst h'
                rw [if_pos rfl]
                omega
              · rw [if_neg (by omega)]
                exact z1 l (by omega)
            · rw [getD_set (by omega), if_neg (by omega)]
              exact z2 l (by omega) hln
          · rw [Int.toNat_natCast] at e'
            exact absurd hz2 e'
        · refine ih (i + 1) h2 cs1 _ fails1 (by omega) (by omega) (fun l hl => ?_) (fun l hl hln => z2 l (by omega) hln) W2 O12
          by_cases h' : l = i
          · subst h'
            have : V = 0 := by simpa using e
            rw [hz2, this]
            decide
          · exact z1 l (by omega)
      · rw [decide_eq_false (by omega), bcase_false]
        obtain rfl : i = n := by omega
        exact hK h1 ops1 fails1 cs1 z1 W1 O1
  exact ⟨n + 1, this (n + 1) 0 h cs ops fails (by omega) (by omega) (by omega) (fun _ _ _ => rfl) W (Only.refl _ _)⟩

/-- a get of a key, whole -/
theorem get_cw (W : CW h c m mc base n cs ops fails) (hb : base < 1000000)
    (hK : ∀ f h', ActIs h' f m (getA base n key) → CW h' c m mc base n cs ops fails → Only [] h h' → h.size ≤ f → f < h'.size → K (.pointer (some ⟨f, 0, none⟩)) h') :
    CallsH Try.prog 31 [.pointer (some ⟨c, 0, none⟩), .int .u64 key] h K :=
  get_spec W.cac W.hn (Nat.lt_of_le_of_lt W.hn2 (by decide)) hb fun f h' a b d => hK f h' a (W.only b (by simp) (by simp) (by simp)) b d (At.lt a)
theorem put_cw (W : CW h c m mc base n cs ops fails) (hb : base < 1000000)
    (hK : ∀ f h', ActIs h' f m (putA base n key val) → CW h' c m mc base n cs ops fails → Only [] h h' → h.size ≤ f → f < h'.size → K (.pointer (some ⟨f, 0, none⟩)) h') :
    CallsH Try.prog 32 [.pointer (some ⟨c, 0, none⟩), .int .u64 key, .int .u64 val] h K :=
  put_spec W.cac W.hn (Nat.lt_of_le_of_lt W.hn2 (by decide)) hb fun f h' a b d => hK f h' a (W.only b (by simp) (by simp) (by simp)) b d (At.lt a)
end
theorem put_even {pos : Nat} {key val : Int} {cs cs' : List Int} (R : PutRel pos key val cs cs') (h0 : 0 ≤ cs.getD pos 0) (h1 : cs.getD pos 0 < 9223372036854775808) (h2 : cs.getD pos 0 % 2 = 0) :
    cs'.getD pos 0 = 4 * (cs.getD pos 0 / 4) + 6 ∧ cs'.getD (pos + 1) 0 = key ∧ cs'.getD (pos + 2) 0 = val := by
  rcases R.2.2 with ⟨_, a, b, c⟩ | ⟨a, _⟩
  · rw [or_two h0 (by omega), wrap_u64 (by omega) (by omega)] at a
    exact ⟨by omega, b, c⟩
  · rw [and_one h0 (by omega)] at a
    exact absurd h2 a
theorem line_lt {base n : Nat} {key : Int} (hn : 1 ≤ n) : ∃ l, l < n ∧ lineOf base n key = base + 3 * l := ⟨home key n, home_lt key hn, rfl⟩

theorem zeros (k x : Nat) : (List.replicate k (0 : Int)).getD x 0 = 0 := by
  simp only [List.getD, List.getElem?_replicate]
  split <;> rfl
theorem known7 {h : Heap} {K : Value → Heap → Prop} (hK : ∀ h', Only [] h h' → K (.bool true) h') : CallsH Try.prog 27 [] h K := by
  apply F27.spec
  unfold F27.w F27.J0
  refine cells_spec (by decide) (by decide) (ldI_of rfl ?_)
  rw [show IntKind.wrap .i64 ((3 : Int) * 4 + 1) = ((13 : Nat) : Int) from rfl]
  refine new_spec fun m mc h1 M1 O1 hm hc => ldP_of rfl ?_
  rw [cellsFor_of (by decide)] at M1
  refine cacnew_spec (base := 1) (n := 4) M1 (by decide) (by decide) (by decide) (by decide) fun c h2 C2 O2 hcc => ⟨_, _, rfl, ?_⟩
  have M2 := M1.only O2 (by simp) (by simp)
  refine cacnew_out (base := 2) (n := 4) M2 (by decide) (by decide) (Or.inr (by decide)) (by decide) ⟨_, _, rfl, ?_⟩
  rw [show ((0 : Int) != 0) = false from rfl, bcase_false, Option.isNone_some, bcase_false, show ((61 : Int) != 61) = false from rfl, bcase_false]
  rw [show decide ((3 : Int) * 4 < 4) = false from rfl, bcase_false, show decide ((3 : Int) * 4 > 16) = false from rfl, bcase_false]
  have lm := M1.head.lt
  have lc := M1.body.lt
  have s1 := O1.size
  have W2 : CW h2 c m mc 1 4 (List.replicate 13 0) 0 0 := ⟨C2, M2, by omega, by omega, by decide, by decide, by decide, by decide⟩
  have P2 := O1.nil O2 (by simp)
  have z0 : ∀ x, (List.replicate 13 (0 : Int)).getD x 0 = 0 := zeros 13
  obtain ⟨l, hl, el⟩ := line_lt (base := 1) (n := 4) (key := 3) (by decide)
  refine get_cw W2 (by decide) fun f h3 A3 W3 O3 hf lf => ldP_of rfl ?_
  have lt := W2.lt
  have s2 := P2.size
  have s3 := O3.size
  have hS : ∀ (f : Nat), h2.size ≤ f → ∀ b ∈ [f, m, mc], h.size ≤ b := by intro f hf; simp; omega
  refine runget W3 A3 (by omega) (by omega) (by omega) fun h4 ops4 fails4 v ok R W4 O4 => ⟨_, _, rfl, ?_⟩
  have P4 := (P2.nil O3 (by simp)).nil O4 (hS f hf)
  have s4 := O4.size
  refine put_cw W4 (by decide) fun g h5 A5 W5 O5 hg lg => ldP_of rfl ?_
  have s5 := O5.size
  refine runput W5 A5 (by omega) (by omega) (by omega) fun h6 ops6 fails6 cs6 R6 W6 O6 => ⟨_, _, rfl, ?_⟩
  have P6 := (P4.nil O5 (by simp)).nil O6 (hS g (by omega))
  have s6 := O6.size
  obtain ⟨e1, e2, e3⟩ := put_even R6 (by rw [z0]; decide) (by rw [z0]; decide) (by rw [z0]; decide)
  rw [z0] at e1
  refine get_cw W6 (by decide) fun f7 h7 A7 W7 O7 hf7 lf7 => ldP_of rfl ?_
  have s7 := O7.size
  refine runget W7 A7 (by omega) (by omega) (by omega) fun h8 ops8 fails8 v8 ok8 R8 W8 O8 => ⟨_, _, rfl, ?_⟩
  have P8 := (P6.nil O7 (by simp)).nil O8 (hS f7 (by omega))
  have s8 := O8.size
  have hev : ∀ l', l' < 4 → 0 ≤ cs6.getD (1 + 3 * l') 0 ∧ cs6.getD (1 + 3 * l') 0 < 9223372036854775808 ∧ cs6.getD (1 + 3 * l') 0 % 2 = 0 := by
    intro l' hl'
    by_cases h' : l' = l
    · subst h'
      rw [← el, e1]
      decide
    · rw [R6.2.1 _ (by omega) (by omega) (by omega), z0]
      decide
  refine clear_cw W8 (by decide) hev fun h9 ops9 fails9 cs9 z9 W9 O9 => ⟨rfl, ?_⟩
  have P9 := P8.nil O9 (by simp; omega)
  have s9 := O9.size
  refine get_cw W9 (by decide) fun f10 h10 A10 W10 O10 hf10 lf10 => ldP_of rfl ?_
  have s10 := O10.size
  refine runget W10 A10 (by omega) (by omega) (by omega) fun h11 ops11 fails11 v11 ok11 R11 W11 O11 => ⟨_, _, rfl, ?_⟩
  have P11 := (P9.nil O10 (by simp)).nil O11 (hS f10 (by omega))
  have r1 : ok = false ∧ v = 0 := by
    rcases R with ⟨_, a, _, _⟩ | ⟨a, b, _⟩
    · rw [z0] at a
      exact absurd a (by decide)
    · exact ⟨a, b⟩
  have r8 : ok8 = true ∧ v8 = 9 := by
    rcases R8 with ⟨a, _, _, b⟩ | ⟨_, _, b⟩
    · exact ⟨a, b.trans e3⟩
    · exact absurd ⟨by rw [e1]; decide, e2⟩ b
  have r11 : ok11 = false := by
    rcases R11 with ⟨_, a, _, _⟩ | ⟨a, _, _⟩
    · rw [el, and_three (z9 l hl).1 (z9 l hl).2.1, (z9 l hl).2.2] at a
      exact absurd a (by decide)
    · exact a
  rw [r1.1, r1.2, r8.1, r8.2, r11, Bool.not_false, bcase_true, show ((0 : Int) == 0) = true from rfl, bcase_true, bcase_true, show ((9 : Int) == 9) = true from rfl, bcase_true]
  exact hK h11 P11

section
variable {h0 : Heap} {c m mc n : Nat} {p : Option Addr} {cap : Nat} {ks : List Int}

theorem cells_loop (hl : ks.length ≤ 40) (hI : Ints h0 .u64 p ks) (s1 : h0.size ≤ m) (s2 : h0.size ≤ mc) :
    ∀ (g i : Nat) (cs : List Int) (ops fails : Int) (h : Heap), ks.length - i < g → i ≤ ks.length → CW h c m mc 1 n cs ops fails → cs.length = 3 * n + 2 → (∀ l, l < n → 0 ≤ cs.getD (1 + 3 * l) 0 ∧ cs.getD (1 + 3 * l) 0 ≤ 6 * i ∧ cs.getD (1 + 3 * l) 0 % 2 = 0) →
      cs.getD 0 0 = 5 → cs.getD (3 * n + 1) 0 = 6 → Only [] h0 h →
      F9.wL16 g p ks.length cap (3 * (n : Int)) (some ⟨m, 0, none⟩) (some ⟨c, 0, none⟩) (i : Int) h (Lawful h0) := by
  intro g
  induction g with
  | zero => intro i cs ops fails h hg; omega
  | succ g ih =>
    intro i cs ops fails h hg hi W hcs hv c0 c1 O
    have hn2 := W.hn2
    unfold F9.wL16 F9.JL16
    by_cases hlt : i < ks.length
    · rw [decide_eq_true (by omega), bcase_true]
      have rk : ∀ h', Only [] h0 h' → ∃ a, p = some a ∧ rd h' (a.add i) = some (.int .u64 (ks.getD i 0)) := fun h' O' => hI.only O' (by simp) i hlt
      obtain ⟨a, rfl, ha⟩ := rk h O
      have ra : ∀ h', Only [] h0 h' → rd h' (a.add i) = some (.int .u64 (ks.getD i 0)) := by
        intro h' O'
        obtain ⟨a', e, ha'⟩ := rk h' O'
        injection e with e
        subst e
        exact ha'
      clear rk
      generalize ks.getD i 0 = key at *
      have ei : IntKind.wrap .i64 ((i : Int) + 1) = ((i + 1 : Nat) : Int) := by rw [wrap_i64 (by omega) (by omega)]; simp
      refine ⟨by omega, by omega, ?_⟩
      simp only [Int.toNat_natCast, Nat.mul_one, ptrK_some]
      refine ldI_of ha ⟨by omega, by omega, ldI_of ha (put_cw W (by decide) fun f h1 A1 W1 O1 hf lf => ldP_of rfl ?_)⟩
      have lt := W.lt
      have so := O.size
      have s1' := O1.size
      have P1 := O.nil O1 (by simp)
      refine runput W1 A1 (by omega) (by omega) (by omega) fun h2 ops2 fails2 cs2 R2 W2 O2 => ⟨_, _, rfl, by omega, by omega, ?_⟩
      have P2 := P1.nil O2 (by simp; omega)
      have s2' := O2.size
      refine ldI_of (ra h2 P2) (get_cw W2 (by decide) fun f' h3 A3 W3 O3 hf' lf' => ldP_of rfl ?_)
      have s3' := O3.size
      refine runget W3 A3 (by omega) (by omega) (by omega) fun h4 ops4 fails4 v ok R W4 O4 => ⟨_, _, rfl, ?_⟩
      have P4 := (P2.nil O3 (by simp)).nil O4 (by simp; omega)
      obtain ⟨l, hl', el⟩ := line_lt (base := 1) (key := key) W.hn
      obtain ⟨v0, v1, v2⟩ := hv l hl'
      obtain ⟨e1, e2, e3⟩ := put_even R2 (by rw [el]; exact v0) (by rw [el]; omega) (by rw [el]; exact v2)
      have r : ok = true ∧ v = IntKind.wrap .u64 (key + 1) := by
        rcases R with ⟨a, _, _, b⟩ | ⟨_, _, b⟩
        · exact ⟨a, b.trans e3⟩
        · exact absurd ⟨by rw [e1, el, and_three (by omega) (by omega)]; omega, e2⟩ b
      rw [r.1, r.2, Bool.not_true, bcase_false]
      refine ⟨by omega, by omega, ldI_of (ra h4 P4) ?_⟩
      rw [bne_self_eq_false, bcase_false, ei]
      refine ih (i + 1) cs2 _ _ h4 (by omega) (by omega) W4 (R2.1.trans hcs) (fun l' hl' => ?_) ?_ ?_ P4
      · by_cases h' : l' = l
        · subst h'
          rw [← el, e1, el]
          omega
        · rw [R2.2.1 _ (by omega) (by omega) (by omega)]
          have := hv l' hl'
          omega
      · rw [R2.2.1 _ (by omega) (by omega) (by omega)]
        exact c0
      · rw [R2.2.1 _ (by omega) (by omega) (by omega)]
        exact c1
    · rw [decide_eq_false (by omega), bcase_false]
      unfold F9.wk22 F9.Jk22
      have hM : ∀ x ∈ [m, mc], h0.size ≤ x := by simp; omega
      refine load_in (i := 0) W.mem (by decide) (by omega) fun h1 M1 O1 => ldI_of rfl ?_
      rw [show cs.getD (Int.toNat 0) 0 = 5 from c0, show ((5 : Int) == 5) = true from rfl, bcase_true]
      rw [show IntKind.wrap .i64 (3 * (n : Int) + 1) = ((3 * n + 1 : Nat) : Int) by rw [wrap_i64 (by omega) (by omega)]; simp]
      refine load_in M1 (by omega) (by omega) fun h2 M2 O2 => ldI_of rfl ?_
      rw [Int.toNat_natCast, c1]
      exact ⟨rfl, (O.nil O1 hM).nil O2 hM⟩
end

theorem cells_law (h : Heap) (v : Int) (hv : IntKind.min .u8 ≤ v ∧ v ≤ IntKind.max .u8) (p : Option Addr) (c : Nat) (ks : List Int) (hI : Ints h .u64 p ks) (_ : ∀ z ∈ ks, IntKind.min .u64 ≤ z ∧ z ≤ IntKind.max .u64) (_ : (ks.length : Int) ≤ maxLen) :
    CallsH Try.prog 9 [.int .u8 v, .slice p ks.length c] h (Lawful h) := by
  apply F9.spec
  unfold F9.w F9.J0
  refine known7 fun h1 O1 => ldB_of rfl ?_
  rw [Bool.not_true, bcase_false]
  refine bcase_of (fun _ => ⟨rfl, O1⟩) fun hl => ?_
  simp at hl
  obtain ⟨w0, w1⟩ := tmod_fit hv (by omega : (0 : Int) < 9)
  obtain ⟨k, hk⟩ : ∃ k : Nat, v.tmod 9 = k := ⟨(v.tmod 9).toNat, by omega⟩
  rw [hk] at w0 w1 ⊢
  have f1 : IntKind.wrap .i64 (k : Int) = k := wrap_i64 (by omega) (by omega)
  have f2 : IntKind.wrap .i64 ((k : Int) + 1) = ((k + 1 : Nat) : Int) := by
    rw [wrap_i64 (by omega) (by omega)]
    simp
  rw [f1, f2]
  refine ⟨by decide, cells_spec (by omega) (by omega) (ldI_of rfl ?_)⟩
  have f3 : IntKind.wrap .i64 (3 * ((k + 1 : Nat) : Int) + 2) = ((3 * (k + 1) + 2 : Nat) : Int) := by
    rw [wrap_i64 (by omega) (by omega)]
    simp
  have f4 : IntKind.wrap .i64 (3 * ((k + 1 : Nat) : Int) + 1) = ((3 * (k + 1) + 1 : Nat) : Int) := by
    rw [wrap_i64 (by omega) (by omega)]
    simp
  have f5 : IntKind.wrap .i64 (4 * ((k + 1 : Nat) : Int)) = 4 * ((k + 1 : Nat) : Int) := wrap_i64 (by omega) (by omega)
  rw [f3, f4, f5]
  have hn1 : 1 ≤ k + 1 := by omega
  have hn9 : k + 1 ≤ 9 := by omega
  generalize k + 1 = n at *
  refine new_spec fun m mc h2 M2 O2 hm hc => ldP_of rfl ?_
  have el : cellsFor ((3 * n + 2 : Nat) : Int) = 3 * n + 2 := cellsFor_of (by omega)
  rw [el] at M2
  refine store_in (i := 0) M2 (by decide) (by simp; omega) fun h3 M3 O3 => ⟨rfl, ?_⟩
  refine store_in M3 (by omega) (by simp) fun h4 M4 O4 => ⟨rfl, ?_⟩
  rw [Int.toNat_natCast] at M4
  have hlen : (((List.replicate (3 * n + 2) (0 : Int)).set (Int.toNat 0) 5).set (3 * n + 1) 6).length = 3 * n + 2 := by simp
  have P4 := (O1.nil O2 (by simp)).nil (O3.trans O4 fun b hb _ => hb) (by have := O1.size; simp; omega)
  refine cacnew_spec (base := 1) (n := n) M4 (by omega) (by omega) (by rw [hlen]; omega) (by rw [hlen]; omega) fun c' h5 C5 O5 hc5 => ⟨_, _, rfl, ?_⟩
  have M5 := M4.only O5 (by simp) (by simp)
  refine cacnew_out (base := 3) (n := n) M5 (by omega) (by rw [hlen]; omega) (Or.inr (by rw [hlen]; omega)) (by rw [hlen]; omega) ⟨_, _, rfl, ?_⟩
  refine cacnew_out (base := 1) (n := 0) M5 (by omega) (by rw [hlen]; omega) (Or.inl rfl) (by rw [hlen]; omega) ⟨_, _, rfl, ?_⟩
  rw [show ((0 : Int) != 0) = false from rfl, bcase_false, show ((61 : Int) != 61) = false from rfl, bcase_false, bcase_false, decide_eq_false (by omega), bcase_false, decide_eq_false (by omega), bcase_false]
  refine cells_none (by decide) (ldI_of rfl ?_)
  rw [show ((0 : Int) != 0) = false from rfl, bcase_false]
  have lm := M4.head.lt
  have lc := M4.body.lt
  have := O1.size
  have W5 : CW h5 c' m mc 1 n (((List.replicate (3 * n + 2) (0 : Int)).set (Int.toNat 0) 5).set (3 * n + 1) 6) _ 0 := ⟨C5, M5, by omega, by omega, by omega, by omega, by rw [hlen]; omega, by rw [hlen]; omega⟩
  have hg : ∀ x, x ≠ 0 → x ≠ 3 * n + 1 → (((List.replicate (3 * n + 2) (0 : Int)).set (Int.toNat 0) 5).set (3 * n + 1) 6).getD x 0 = 0 := by
    intro x h1 h2
    rw [getD_set (by simp), if_neg (Ne.symm h2), getD_set (by simp), if_neg (show ¬ Int.toNat 0 = x from Ne.symm h1)]
    exact zeros _ x
  unfold F9.wk16 F9.Jk16
  refine ⟨ks.length + 1, cells_loop (by omega) hI (by omega) (by omega) (ks.length + 1) 0 _ _ _ h5 (by omega) (by omega) W5 hlen (fun l hl => ?_) ?_ ?_ (P4.nil O5 (by simp))⟩
  · rw [hg _ (by omega) (by omega)]
    decide
  · rw [getD_set (by simp), if_neg (by omega), getD_set (by simp), if_pos (show Int.toNat 0 = 0 from rfl)]
  · rw [getD_set (by simp), if_pos rfl]
end Go.Proofs.Ytbjdjgdbkfjglaa.Ev
