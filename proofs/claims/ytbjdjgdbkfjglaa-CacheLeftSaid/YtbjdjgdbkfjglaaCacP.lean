/- THE CACHE's PLAIN LAW: what a put and a get come to, alone; and their runs. Conditions: none. -/
import Derived.Test.YtbjdjgdbkfjglaaCacC
import Derived.Test.YtbjdjgdbkfjglaaL7F
namespace Go.Proofs.Ytbjdjgdbkfjglaa.Ev
open Go

theorem bv64 {x : Int} (h0 : 0 ≤ x) (h1 : x < 18446744073709551616) : (BitVec.ofInt 64 x).toNat = x.toNat := by
  rw [BitVec.toNat_ofInt]
  congr 1
  omega
theorem and_one {x : Int} (h0 : 0 ≤ x) (h1 : x < 18446744073709551616) : bitsI .and .u64 x 1 = x % 2 := by
  show IntKind.wrap .u64 (((BitVec.ofInt 64 x &&& BitVec.ofInt 64 1).toNat : Nat) : Int) = _
  rw [BitVec.toNat_and, bv64 h0 h1, show (BitVec.ofInt 64 1).toNat = 1 from rfl, Nat.and_one_is_mod, wrap_u64 (by omega) (by omega)]
  omega
theorem and_three {x : Int} (h0 : 0 ≤ x) (h1 : x < 18446744073709551616) : bitsI .and .u64 x 3 = x % 4 := by
  show IntKind.wrap .u64 (((BitVec.ofInt 64 x &&& BitVec.ofInt 64 3).toNat : Nat) : Int) = _
  rw [BitVec.toNat_and, bv64 h0 h1, show (BitVec.ofInt 64 3).toNat = 2 ^ 2 - 1 from rfl, Nat.and_two_pow_sub_one_eq_mod, wrap_u64 (by omega) (by omega)]
  omega
theorem nat_or_two (n : Nat) : n ||| 2 = 4 * (n / 4) + 2 + n % 2 := by
  apply Nat.eq_of_testBit_eq
  intro i
  match i with
  | 0 =>
    rw [Nat.testBit_or]
    simp [Nat.testBit_zero]
    omega
  | 1 =>
    rw [Nat.testBit_or, Nat.testBit_succ, Nat.testBit_succ, Nat.testBit_succ, Nat.testBit_zero, Nat.testBit_zero, Nat.testBit_zero]
    simp
    omega
  | i + 2 =>
    rw [Nat.testBit_or, Nat.testBit_succ, Nat.testBit_succ, Nat.testBit_succ, Nat.testBit_succ, Nat.testBit_succ, Nat.testBit_succ]
    rw [show 2 / 2 / 2 = 0 by omega, show (4 * (n / 4) + 2 + n % 2) / 2 / 2 = n / 2 / 2 by omega]
    simp
theorem or_two {x : Int} (h0 : 0 ≤ x) (h1 : x < 18446744073709551616) : bitsI .or .u64 x 2 = 4 * (x / 4) + 2 + x % 2 := by
  show IntKind.wrap .u64 (((BitVec.ofInt 64 x ||| BitVec.ofInt 64 2).toNat : Nat) : Int) = _
  rw [BitVec.toNat_or, bv64 h0 h1, show (BitVec.ofInt 64 2).toNat = 2 from rfl, nat_or_two, wrap_u64 (by omega) (by omega)]
  omega

theorem nat_andnot_two {n : Nat} (h : n < 18446744073709551616) : n &&& 18446744073709551613 = 4 * (n / 4) + n % 2 := by
  apply Nat.eq_of_testBit_eq
  intro i
  match i with
  | 0 =>
    rw [Nat.testBit_and]
    simp [Nat.testBit_zero]
    omega
  | 1 =>
    rw [Nat.testBit_and, Nat.testBit_succ, Nat.testBit_succ, Nat.testBit_succ, Nat.testBit_zero, Nat.testBit_zero, Nat.testBit_zero]
    simp
    omega
  | i + 2 =>
    rw [Nat.testBit_and, Nat.testBit_succ, Nat.testBit_succ, Nat.testBit_succ, Nat.testBit_succ, Nat.testBit_succ, Nat.testBit_succ]
    rw [show 18446744073709551613 / 2 / 2 = 2 ^ 62 - 1 by decide, Nat.testBit_two_pow_sub_one, show (4 * (n / 4) + n % 2) / 2 / 2 = n / 2 / 2 by omega]
    by_cases hi : i < 62
    · simp [hi]
    · have : n / 2 / 2 < 2 ^ i := Nat.lt_of_lt_of_le (show n / 2 / 2 < 2 ^ 62 by omega) (Nat.pow_le_pow_right (by omega) (by omega))
      rw [Nat.testBit_lt_two_pow this]
      simp
theorem andnot_two {x : Int} (h0 : 0 ≤ x) (h1 : x < 18446744073709551616) : bitsI .andNot .u64 x 2 = 4 * (x / 4) + x % 2 := by
  show IntKind.wrap .u64 (((BitVec.ofInt 64 x &&& ~~~ BitVec.ofInt 64 2).toNat : Nat) : Int) = _
  rw [BitVec.toNat_and, bv64 h0 h1, show (~~~ BitVec.ofInt 64 2).toNat = 18446744073709551613 from rfl, nat_andnot_two (by omega), wrap_u64 (by omega) (by omega)]
  omega

/-- what a put does to its line -/
def PutRel (pos : Nat) (key val : Int) (cs cs' : List Int) : Prop :=
  cs'.length = cs.length ∧ (∀ x, x ≠ pos → x ≠ pos + 1 → x ≠ pos + 2 → cs'.getD x 0 = cs.getD x 0) ∧
  ((bitsI .and .u64 (cs.getD pos 0) 1 = 0 ∧ cs'.getD pos 0 = IntKind.wrap .u64 (bitsI .or .u64 (cs.getD pos 0) 2 + 4) ∧ cs'.getD (pos + 1) 0 = key ∧ cs'.getD (pos + 2) 0 = val) ∨
   (bitsI .and .u64 (cs.getD pos 0) 1 ≠ 0 ∧ cs' = cs))
def GetRel (pos : Nat) (key : Int) (cs : List Int) (v : Int) (ok : Bool) : Prop :=
  (ok = true ∧ bitsI .and .u64 (cs.getD pos 0) 3 = 2 ∧ cs.getD (pos + 1) 0 = key ∧ v = cs.getD (pos + 2) 0) ∨ (ok = false ∧ v = 0 ∧ ¬ (bitsI .and .u64 (cs.getD pos 0) 3 = 2 ∧ cs.getD (pos + 1) 0 = key))
/-- a get under way -/
def GInv (cs : List Int) (A : Ac) : Prop :=
  A.done = false ∧ A.ok = false ∧ (A.ph = 5 ∨ (A.ph = 6 ∧ A.ver = cs.getD A.pos 0 ∧ bitsI .and .u64 (cs.getD A.pos 0) 3 = 2) ∨ (A.ph = 7 ∧ A.ver = cs.getD A.pos 0 ∧ bitsI .and .u64 (cs.getD A.pos 0) 3 = 2 ∧ cs.getD (A.pos + 1) 0 = A.key) ∨
    (A.ph = 8 ∧ A.ver = cs.getD A.pos 0 ∧ bitsI .and .u64 (cs.getD A.pos 0) 3 = 2 ∧ cs.getD (A.pos + 1) 0 = A.key ∧ A.got = cs.getD (A.pos + 2) 0))
theorem GInv.step {cs : List Int} {A : Ac} (G : GInv cs A) : (stepA cs A).2 = cs ∧ (stepA cs A).1.pos = A.pos ∧ (stepA cs A).1.key = A.key ∧
    (((stepA cs A).1.done = true ∧ GetRel A.pos A.key cs (gotV (stepA cs A).1) (gotB (stepA cs A).1)) ∨ (GInv cs (stepA cs A).1 ∧ (stepA cs A).1.ph = A.ph + 1)) := by
  obtain ⟨key, val, pos, ver, ph, done, ok, got⟩ := A
  obtain ⟨hd, ho, G⟩ := G
  dsimp only at hd ho G
  subst hd ho
  rcases G with rfl | ⟨rfl, hv, h3⟩ | ⟨rfl, hv, h3, hk⟩ | ⟨rfl, hv, h3, hk, hg⟩
  · by_cases h : bitsI .and .u64 (cs.getD pos 0) 3 = 2
    · have e : (bitsI .and .u64 (cs.getD pos 0) 3 != 2) = false := by simpa using h
      refine ⟨rfl, rfl, rfl, Or.inr ⟨⟨?_, rfl, Or.inr (Or.inl ⟨rfl, rfl, h⟩)⟩, rfl⟩⟩
      simpa [stepA] using h
    · have e : (bitsI .and .u64 (cs.getD pos 0) 3 != 2) = true := by simpa using h
      refine ⟨rfl, rfl, rfl, Or.inl ⟨?_, Or.inr ⟨?_, ?_, fun h' => h h'.1⟩⟩⟩
      · simpa [stepA] using h
      · simp [gotB, stepA]
      · simp [gotV, stepA]
  · by_cases h : cs.getD (pos + 1) 0 = key
    · refine ⟨rfl, rfl, rfl, Or.inr ⟨⟨?_, rfl, Or.inr (Or.inr (Or.inl ⟨rfl, hv, h3, h⟩))⟩, rfl⟩⟩
      simpa [stepA] using h
    · refine ⟨rfl, rfl, rfl, Or.inl ⟨?_, Or.inr ⟨?_, ?_, fun h' => h h'.2⟩⟩⟩
      · simpa [stepA] using h
      · simp [gotB, stepA]
      · simp [gotV, stepA]
  · exact ⟨rfl, rfl, rfl, Or.inr ⟨⟨rfl, rfl, Or.inr (Or.inr (Or.inr ⟨rfl, hv, h3, hk, rfl⟩))⟩, rfl⟩⟩
  · refine ⟨rfl, rfl, rfl, Or.inl ⟨rfl, Or.inl ⟨?_, h3, hk, ?_⟩⟩⟩
    · simp [gotB, stepA, hv]
    · simp only [gotV, stepA, hv, hg]
      simp
/-- a put under way -/
def PInvA (cs0 cs : List Int) (A : Ac) : Prop :=
  A.done = false ∧ A.ok = false ∧ ((A.ph = 0 ∧ cs = cs0) ∨ (bitsI .and .u64 (cs0.getD A.pos 0) 1 = 0 ∧ A.ver = cs0.getD A.pos 0 ∧
    ((A.ph = 1 ∧ cs = cs0) ∨ (A.ph = 2 ∧ cs = cs0.set A.pos (bitsI .or .u64 A.ver 1)) ∨ (A.ph = 3 ∧ cs = (cs0.set A.pos (bitsI .or .u64 A.ver 1)).set (A.pos + 1) A.key) ∨
     (A.ph = 4 ∧ cs = ((cs0.set A.pos (bitsI .or .u64 A.ver 1)).set (A.pos + 1) A.key).set (A.pos + 2) A.val))))
theorem getD_set {l : List Int} {i j : Nat} {v : Int} (hi : i < l.length) : (l.set i v).getD j 0 = if i = j then v else l.getD j 0 := by
  by_cases h : i = j
  · subst h; simp [hi]
  · simp [List.getD, h]
theorem PInvA.step {cs0 cs : List Int} {A : Ac} (hp : A.pos + 2 < cs0.length) (G : PInvA cs0 cs A) : (stepA cs A).1.pos = A.pos ∧ (stepA cs A).1.key = A.key ∧ (stepA cs A).1.val = A.val ∧
    (((stepA cs A).1.done = true ∧ (stepA cs A).1.ok = false ∧ PutRel A.pos A.key A.val cs0 (stepA cs A).2) ∨ (PInvA cs0 (stepA cs A).2 (stepA cs A).1 ∧ (stepA cs A).1.ph = A.ph + 1)) := by
  obtain ⟨key, val, pos, ver, ph, done, ok, got⟩ := A
  obtain ⟨hd, ho, G⟩ := G
  dsimp only at hd ho G hp
  subst hd ho
  rcases G with ⟨rfl, rfl⟩ | ⟨h1, rfl, ⟨rfl, rfl⟩ | ⟨rfl, rfl⟩ | ⟨rfl, rfl⟩ | ⟨rfl, rfl⟩⟩
  · by_cases h : bitsI .and .u64 (cs.getD pos 0) 1 = 0
    · refine ⟨rfl, rfl, rfl, Or.inr ⟨⟨?_, rfl, Or.inr ⟨h, rfl, Or.inl ⟨rfl, rfl⟩⟩⟩, rfl⟩⟩
      simpa [stepA] using h
    · refine ⟨rfl, rfl, rfl, Or.inl ⟨?_, rfl, rfl, fun _ _ _ _ => rfl, Or.inr ⟨h, rfl⟩⟩⟩
      simpa [stepA] using h
  · refine ⟨?_, ?_, ?_, Or.inr ⟨⟨?_, ?_, Or.inr ⟨?_, ?_, Or.inr (Or.inl ⟨?_, ?_⟩)⟩⟩, ?_⟩⟩ <;> simp [stepA]
    exact h1
  · exact ⟨rfl, rfl, rfl, Or.inr ⟨⟨rfl, rfl, Or.inr ⟨h1, rfl, Or.inr (Or.inr (Or.inl ⟨rfl, rfl⟩))⟩⟩, rfl⟩⟩
  · exact ⟨rfl, rfl, rfl, Or.inr ⟨⟨rfl, rfl, Or.inr ⟨h1, rfl, Or.inr (Or.inr (Or.inr ⟨rfl, rfl⟩))⟩⟩, rfl⟩⟩
  · refine ⟨rfl, rfl, rfl, Or.inl ⟨rfl, rfl, by simp [stepA], fun x n1 n2 n3 => ?_, Or.inl ⟨h1, ?_, ?_, ?_⟩⟩⟩
    · simp only [stepA, Bool.false_eq_true, if_false]
      rw [getD_set (by simp; omega), if_neg (Ne.symm n1), getD_set (by simp; omega), if_neg (Ne.symm n3), getD_set (by simp; omega), if_neg (Ne.symm n2), getD_set (by omega), if_neg (Ne.symm n1)]
    · simp only [stepA, Bool.false_eq_true, if_false]
      rw [getD_set (by simp; omega), if_pos rfl]
    · simp only [stepA, Bool.false_eq_true, if_false]
      rw [getD_set (by simp; omega), if_neg (by omega), getD_set (by simp; omega), if_neg (by omega), getD_set (by simp; omega), if_pos rfl]
    · simp only [stepA, Bool.false_eq_true, if_false]
      rw [getD_set (by simp; omega), if_neg (by omega), getD_set (by simp; omega), if_pos rfl]

/-- a cache over its cells -/
structure CW (h : Heap) (c m mc base n : Nat) (cs : List Int) (ops fails : Int) : Prop where
  cac : CacIs h c m base n
  mem : MemIs h m mc cs ops fails
  d4 : c ≠ m
  d5 : c ≠ mc
  hn : 1 ≤ n
  hn2 : n ≤ 1024
  hc : base + 3 * n ≤ cs.length
  hl : cs.length < 1000000
theorem CW.only {h h' : Heap} {c m mc base n : Nat} {cs : List Int} {ops fails : Int} {S : List Nat} (W : CW h c m mc base n cs ops fails) (O : Only S h h') (h1 : c ∉ S) (h2 : m ∉ S) (h3 : mc ∉ S) : CW h' c m mc base n cs ops fails :=
  ⟨W.cac.only O h1, W.mem.only O h2 h3, W.d4, W.d5, W.hn, W.hn2, W.hc, W.hl⟩
theorem CW.pos {h : Heap} {c m mc base n : Nat} {cs : List Int} {ops fails : Int} (W : CW h c m mc base n cs ops fails) (key : Int) : lineOf base n key + 2 < cs.length := by
  have := home_lt key W.hn
  have := W.hc
  unfold lineOf
  omega
theorem CW.lt {h : Heap} {c m mc base n : Nat} {cs : List Int} {ops fails : Int} (W : CW h c m mc base n cs ops fails) : c < h.size ∧ m < h.size ∧ mc < h.size := ⟨At.lt W.cac, W.mem.head.lt, W.mem.body.lt⟩

section
variable {h0 h : Heap} {f c m mc base n : Nat} {cs : List Int} {ops fails : Int} {K : Value → Heap → Prop} {key val : Int}

theorem stepA_cw {A : Ac} (W : CW h c m mc base n cs ops fails) (H : ActIs h f m A) (hp : A.pos + 2 < cs.length) (hph : A.ph ≤ 8) (d1 : f ≠ c) (d2 : f ≠ m) (d3 : f ≠ mc)
    (hK : ∀ h' ops' fails', ActIs h' f m (stepA cs A).1 → CW h' c m mc base n (stepA cs A).2 ops' fails' → Only [f, m, mc] h h' → K (.bool (stepA cs A).1.done) h') :
    CallsH Try.prog 36 [.pointer (some ⟨f, 0, none⟩)] h K :=
  stepA_spec H W.mem hp (Nat.lt_trans W.hl (by decide)) hph d2 d3 fun h' ops' fails' a b O =>
    hK h' ops' fails' a ⟨W.cac.only O (by simp [d1.symm, W.d4, W.d5]), b, W.d4, W.d5, W.hn, W.hn2, by rw [stepA_len]; exact W.hc, by rw [stepA_len]; exact W.hl⟩ O

/-- a get, run to its end -/
theorem runget (W : CW h c m mc base n cs ops fails) (H : ActIs h f m (getA base n key)) (d1 : f ≠ c) (d2 : f ≠ m) (d3 : f ≠ mc)
    (hK : ∀ h' ops' fails' v ok, GetRel (lineOf base n key) key cs v ok → CW h' c m mc base n cs ops' fails' → Only [f, m, mc] h h' → K (.tuple #[.int .u64 v, .bool ok]) h') :
    CallsH Try.prog 30 [.pointer (some ⟨f, 0, none⟩)] h K := by
  apply F30.spec
  unfold F30.w F30.J0 F30.wk2 F30.Jk2
  have : ∀ (g i : Nat) (A : Ac) (h1 : Heap) (ops1 fails1 : Int), 9 - A.ph < g → i + 5 ≤ A.ph → A.ph ≤ 8 → GInv cs A → A.pos = lineOf base n key → A.key = key → ActIs h1 f m A → CW h1 c m mc base n cs ops1 fails1 → Only [f, m, mc] h h1 →
      F30.wL2 g ⟨f, 0, none⟩ (i : Int) h1 K := by
    intro g
    induction g with
    | zero => intro i A h1 ops1 fails1 hg; omega
    | succ g ih =>
      intro i A h1 ops1 fails1 hg hi hph G hp hk H1 W1 O1
      unfold F30.wL2 F30.JL2
      rw [decide_eq_true (by omega), bcase_true]
      refine stepA_cw W1 H1 (by rw [hp]; exact W1.pos key) hph d1 d2 d3 fun h2 ops2 fails2 H2 W2 O2 => ldB_of rfl ?_
      obtain ⟨s1, s2, s3, s4⟩ := G.step
      rw [s1] at W2
      have O12 := O1.trans O2 fun b hb _ => hb
      rcases s4 with ⟨e, r⟩ | ⟨G', e⟩
      · rw [e, Bool.not_true, bcase_false]
        unfold F30.wk4 F30.Jk4
        refine got_spec H2 ⟨_, _, rfl, ?_⟩
        rw [hp, hk] at r
        exact hK h2 ops2 fails2 _ _ r W2 O12
      · rw [G'.1, Bool.not_false, bcase_true, show IntKind.wrap .i64 ((i : Int) + 1) = ((i + 1 : Nat) : Int) by rw [wrap_i64 (by omega) (by omega)]; simp]
        have hp8 : (stepA cs A).1.ph ≤ 8 := by
          rcases G'.2.2 with e' | ⟨e', _⟩ | ⟨e', _⟩ | ⟨e', _⟩ <;> omega
        exact ih (i + 1) _ h2 ops2 fails2 (by omega) (by omega) hp8 G' (s2.trans hp) (s3.trans hk) H2 W2 O12
  exact ⟨5, this 5 0 (getA base n key) h ops fails (by show 9 - 5 < 5; omega) (by show 0 + 5 ≤ 5; omega) (by show 5 ≤ 8; omega) ⟨rfl, rfl, Or.inl rfl⟩ rfl rfl H W (Only.refl _ _)⟩
/-- a put, run to its end -/
theorem runput (W : CW h c m mc base n cs ops fails) (H : ActIs h f m (putA base n key val)) (d1 : f ≠ c) (d2 : f ≠ m) (d3 : f ≠ mc)
    (hK : ∀ h' ops' fails' cs', PutRel (lineOf base n key) key val cs cs' → CW h' c m mc base n cs' ops' fails' → Only [f, m, mc] h h' → K (.tuple #[.int .u64 0, .bool false]) h') :
    CallsH Try.prog 30 [.pointer (some ⟨f, 0, none⟩)] h K := by
  apply F30.spec
  unfold F30.w F30.J0 F30.wk2 F30.Jk2
  have : ∀ (g i : Nat) (A : Ac) (cs1 : List Int) (h1 : Heap) (ops1 fails1 : Int), 5 - A.ph < g → i ≤ A.ph → A.ph ≤ 4 → PInvA cs cs1 A → A.pos = lineOf base n key → A.key = key → A.val = val → ActIs h1 f m A → CW h1 c m mc base n cs1 ops1 fails1 → Only [f, m, mc] h h1 →
      F30.wL2 g ⟨f, 0, none⟩ (i : Int) h1 K := by
    intro g
    induction g with
    | zero => intro i A cs1 h1 ops1 fails1 hg; omega
    | succ g ih =>
      intro i A cs1 h1 ops1 fails1 hg hi hph G hp hk hv H1 W1 O1
      unfold F30.wL2 F30.JL2
      rw [decide_eq_true (by omega), bcase_true]
      refine stepA_cw W1 H1 (by rw [hp]; exact W1.pos key) (by omega) d1 d2 d3 fun h2 ops2 fails2 H2 W2 O2 => ldB_of rfl ?_
      obtain ⟨s2, s3, s3', s4⟩ := G.step (by rw [hp]; exact W.pos key)
      have O12 := O1.trans O2 fun b hb _ => hb
      rcases s4 with ⟨e, eo, r⟩ | ⟨G', e⟩
      · rw [e, Bool.not_true, bcase_false]
        unfold F30.wk4 F30.Jk4
        refine got_spec H2 ⟨_, _, rfl, ?_⟩
        rw [hp, hk, hv] at r
        have := hK h2 ops2 fails2 _ r W2 O12
        simpa [gotV, gotB, eo] using this
      · rw [G'.1, Bool.not_false, bcase_true, show IntKind.wrap .i64 ((i : Int) + 1) = ((i + 1 : Nat) : Int) by rw [wrap_i64 (by omega) (by omega)]; simp]
        have hp4 : (stepA cs1 A).1.ph ≤ 4 := by
          rcases G'.2.2 with ⟨e', _⟩ | ⟨_, _, ⟨e', _⟩ | ⟨e', _⟩ | ⟨e', _⟩ | ⟨e', _⟩⟩ <;> omega
        exact ih (i + 1) _ _ h2 ops2 fails2 (by omega) (by omega) hp4 G' (s2.trans hp) (s3.trans hk) (s3'.trans hv) H2 W2 O12
  exact ⟨6, this 6 0 (putA base n key val) cs h ops fails (by show 5 - 0 < 6; omega) (Nat.zero_le _) (Nat.zero_le _) ⟨rfl, rfl, Or.inl ⟨rfl, rfl⟩⟩ rfl rfl rfl H W (Only.refl _ _)⟩
end
end Go.Proofs.Ytbjdjgdbkfjglaa.Ev
