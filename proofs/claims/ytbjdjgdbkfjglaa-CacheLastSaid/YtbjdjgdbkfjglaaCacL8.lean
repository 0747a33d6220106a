/- THE LAW OF WHAT WAS PUT LAST (CacheLast). Conditions: none. -/
import Derived.Test.YtbjdjgdbkfjglaaCacL
import Derived.Test.YtbjdjgdbkfjglaaEvL
namespace Go.Proofs.Ytbjdjgdbkfjglaa.Ev
open Go

/-- what stands in a line was put last -/
def LInv (n : Nat) (cs : List Int) (la : Nat → Int) (ha : Nat → Bool) (i : Nat) : Prop :=
  ∀ l, l < n → 0 ≤ cs.getD (0 + 3 * l) 0 ∧ cs.getD (0 + 3 * l) 0 ≤ 6 * i ∧ cs.getD (0 + 3 * l) 0 % 2 = 0 ∧
    (cs.getD (0 + 3 * l) 0 % 4 = 2 → ∃ k : Nat, cs.getD (0 + 3 * l + 1) 0 = k ∧ home k n = l ∧ ha k = true ∧ la k = cs.getD (0 + 3 * l + 2) 0)
theorem LInv.put {n i k : Nat} {cs cs' : List Int} {la : Nat → Int} {ha : Nat → Bool} {v : Int} (H : LInv n cs la ha i) (hn : 1 ≤ n) (hi : i ≤ 1000) (R : PutRel (lineOf 0 n k) k v cs cs') :
    LInv n cs' (fset la k v) (fset ha k true) (i + 1) ∧ ∀ v' ok, GetRel (lineOf 0 n k) k cs' v' ok → ok = true := by
  have hl := home_lt (k : Int) hn
  have el : lineOf 0 n k = 0 + 3 * home k n := rfl
  rw [el] at R ⊢
  clear el
  have hh : ∀ k' : Nat, home (k' : Int) n ≠ home (k : Int) n → k' ≠ k := fun k' h e => h (by rw [e])
  have hx : ∀ k' l : Nat, home (k' : Int) n = l → l ≠ home (k : Int) n → k' ≠ k := fun k' l e h => hh k' (by rw [e]; exact h)
  clear hh
  obtain ⟨y, hy⟩ : ∃ y, home (k : Int) n = y := ⟨_, rfl⟩
  rw [hy] at hl R hx ⊢
  obtain ⟨v0, v1, v2, -⟩ := H y hl
  obtain ⟨e1, e2, e3⟩ := put_even R v0 (by omega) v2
  refine ⟨fun l hln => ?_, fun v' ok G => ?_⟩
  · by_cases h : l = y
    · subst h
      rw [e1, e2, e3]
      exact ⟨by omega, by omega, by omega, fun _ => ⟨k, rfl, hy, fset_same _ _ _, fset_same _ _ _⟩⟩
    · rw [R.2.1 _ (by omega) (by omega) (by omega), R.2.1 _ (by omega) (by omega) (by omega), R.2.1 _ (by omega) (by omega) (by omega)]
      obtain ⟨a, b, c, d⟩ := H l hln
      refine ⟨a, by omega, c, fun h2 => ?_⟩
      obtain ⟨k', x1, x2, x3, x4⟩ := d h2
      have : k' ≠ k := hx k' l x2 h
      exact ⟨k', x1, x2, by rw [fset_other _ _ this]; exact x3, by rw [fset_other _ _ this]; exact x4⟩
  · rcases G with ⟨e, _⟩ | ⟨_, _, e⟩
    · exact e
    · exact absurd ⟨by rw [e1, and_three (by omega) (by omega)]; omega, e2⟩ e

section
variable {h0 : Heap} {c m mc n b1 b2 : Nat}
/-- a get of k -/
theorem get_last {k : Nat} {cs : List Int} {la : Nat → Int} {ha : Nat → Bool} {i' : Nat} {ops fails : Int} {h : Heap} {Q : Value → Heap → Prop} (s1 : h0.size ≤ m) (s2 : h0.size ≤ mc) (d3 : b1 ≠ m) (d4 : b1 ≠ mc) (d6 : b2 ≠ m) (d7 : b2 ≠ mc)
    (hi' : i' ≤ 100) (W : CW h c m mc 0 n cs ops fails) (V : LInv n cs la ha i') (A1 : At h b1 (rowV 256 fun k => .int .u64 (la k))) (A2 : At h b2 (rowV 256 fun k => .bool (ha k))) (O : Only [] h0 h)
    (hQ : ∀ h' ops' fails' v ok, GetRel (lineOf 0 n k) k cs v ok → (ok = true → ha k = true ∧ v = la k) → CW h' c m mc 0 n cs ops' fails' → At h' b1 (rowV 256 fun k => .int .u64 (la k)) → At h' b2 (rowV 256 fun k => .bool (ha k)) → Only [] h0 h' → Q (.tuple #[.int .u64 v, .bool ok]) h') :
    CallsH Try.prog 31 [(.pointer (some ⟨c, 0, none⟩)), (.int .u64 (k : Int))] h (fun v5 h6 => ldP (some v5) (fun p7 => CallsH Try.prog 30 [(.pointer p7)] h6 Q)) := by
  refine get_cw W (by decide) fun f h1 F1 W1 O1 hf lf => ldP_of rfl ?_
  have lt := W.lt
  have so := O.size
  have l1 := A1.lt
  have l2 := A2.lt
  have nf : f ≠ c ∧ f ≠ m ∧ f ≠ mc ∧ b1 ≠ f ∧ b2 ≠ f := by omega
  obtain ⟨n1, n2, n3, n4, n5⟩ := nf
  refine runget W1 F1 n1 n2 n3 fun h2 ops2 fails2 v ok G W2 O2 => ?_
  refine hQ h2 ops2 fails2 v ok G (fun hok => ?_) W2 ((A1.only O1 (by simp)).only O2 (by simp [n4, d3, d4])) ((A2.only O1 (by simp)).only O2 (by simp [n5, d6, d7])) ((O.nil O1 (by simp)).nil O2 (by simp; omega))
  rcases G with ⟨_, g3, gk, gv⟩ | ⟨e, _⟩
  · have hl := home_lt (k : Int) W.hn
    have el : lineOf 0 n k = 0 + 3 * home k n := rfl
    rw [el] at g3 gk gv
    clear el
    generalize home (k : Int) n = y at *
    obtain ⟨v0, v1, v2, d⟩ := V _ hl
    rw [and_three v0 (by omega)] at g3
    obtain ⟨k', x1, x2, x3, x4⟩ := d g3
    rw [x1] at gk
    have : k' = k := by omega
    subst this
    exact ⟨x3, by rw [gv]; exact x4.symm⟩
  · rw [hok] at e; cases e
end

section
variable {h0 : Heap} {c m mc n b1 b2 : Nat} {p : Option Addr} {cap L : Nat} {s : Nat → Nat → Value}

theorem last_loop (hL : L ≤ 60) (R : Recs h0 p L 3 s) (f0 : ∀ i, i < L → ∃ b, s i 0 = .bool b) (f1 : ∀ i, i < L → ∃ n, s i 1 = .int .u8 n ∧ IntKind.min .u8 ≤ n ∧ n ≤ IntKind.max .u8) (f2 : ∀ i, i < L → ∃ n, s i 2 = .int .u64 n ∧ IntKind.min .u64 ≤ n ∧ n ≤ IntKind.max .u64)
    (s1 : h0.size ≤ m) (s2 : h0.size ≤ mc) (s3 : h0.size ≤ b1) (s4 : h0.size ≤ b2) (d1 : b1 ≠ b2) (d2 : b1 ≠ c) (d3 : b1 ≠ m) (d4 : b1 ≠ mc) (d5 : b2 ≠ c) (d6 : b2 ≠ m) (d7 : b2 ≠ mc) :
    ∀ (g i : Nat) (cs : List Int) (la : Nat → Int) (ha : Nat → Bool) (ops fails : Int) (h : Heap), L - i < g → i ≤ L → CW h c m mc 0 n cs ops fails → LInv n cs la ha i →
      At h b1 (rowV 256 fun k => .int .u64 (la k)) → At h b2 (rowV 256 fun k => .bool (ha k)) → Only [] h0 h →
      F8.wL13 g p L cap (some ⟨c, 0, none⟩) ⟨b1, 0, none⟩ ⟨b2, 0, none⟩ (i : Int) h (Lawful h0) := by
  intro g
  induction g with
  | zero => intro i cs la ha ops fails h hg; omega
  | succ g ih =>
    intro i cs la ha ops fails h hg hi W V A1 A2 O
    have hn := W.hn
    unfold F8.wL13 F8.JL13
    by_cases hlt : i < L
    · rw [decide_eq_true (by omega), bcase_true]
      have rr : ∀ h' j, Only [] h0 h' → j < 3 → ∃ a, p = some a ∧ rd h' (a.add (i * 3 + j)) = some (s i j) := fun h' j O' hj => R.only O' (by simp) i j hlt hj
      obtain ⟨a, rfl, -⟩ := rr h 0 O (by omega)
      have ra : ∀ h' j, Only [] h0 h' → j < 3 → rd h' (a.add (i * 3 + j)) = some (s i j) := by
        intro h' j O' hj
        obtain ⟨a', e, ha'⟩ := rr h' j O' hj
        injection e with e
        subst e
        exact ha'
      clear rr
      obtain ⟨B, e0⟩ := f0 i hlt
      obtain ⟨kz, e1, k0, k1⟩ := f1 i hlt
      obtain ⟨v, e2, -, -⟩ := f2 i hlt
      have k0 : 0 ≤ kz := k0
      have k1 : kz ≤ 255 := k1
      obtain ⟨k, rfl⟩ : ∃ k : Nat, kz = k := ⟨kz.toNat, by omega⟩
      have hk : k < 256 := by omega
      have ei : IntKind.wrap .i64 ((i : Int) + 1) = ((i + 1 : Nat) : Int) := by rw [wrap_i64 (by omega) (by omega)]; simp
      have ek : IntKind.wrap .u64 (k : Int) = k := wrap_u64 (by omega) (by omega)
      rw [ei]
      refine ⟨by omega, by omega, ?_⟩
      simp only [Int.toNat_natCast, add_add, ptrK_some]
      refine ldI_of ((ra h 1 O (by omega)).trans (by rw [e1])) ⟨by omega, by omega, ldB_of ((ra h 0 O (by omega)).trans (by rw [e0])) ?_⟩
      simp only [Int.toNat_natCast, ek, add_mk, Nat.zero_add, Nat.mul_one, Nat.add_zero]
      have lt := W.lt
      have so := O.size
      have l1 := A1.lt
      have l2 := A2.lt
      cases B with
      | false =>
        rw [Bool.not_false, bcase_true]
        refine get_last s1 s2 d3 d4 d6 d7 (by omega : i ≤ 100) W V A1 A2 O fun h2 ops2 fails2 v' ok G hok W2 B1 B2 P2 => ⟨_, _, rfl, ?_⟩
        have nxt := ih (i + 1) cs la ha ops2 fails2 h2 (by omega) (by omega) W2 (fun l hl => by have := V l hl; exact ⟨this.1, by omega, this.2.2⟩) B1 B2 P2
        refine bcase_of (fun e => ?_) fun _ => nxt
        obtain ⟨y1, y2⟩ := hok e
        refine ⟨by omega, by omega, ldB_of (by rw [B2.rd, rowV_get hk]) ?_⟩
        rw [y1, Bool.not_true, bcase_false]
        refine ⟨by omega, by omega, ldI_of (by rw [B1.rd, rowV_get hk]) ?_⟩
        rw [y2, bne_self_eq_false, bcase_false]
        exact nxt
      | true =>
        rw [Bool.not_true, bcase_false]
        refine ⟨by omega, by omega, ldI_of ((ra h 2 O (by omega)).trans (by rw [e2])) (put_cw W (by decide) fun f h1 F1 W1 O1 hf lf => ldP_of rfl ?_)⟩
        have P1 := O.nil O1 (by simp)
        refine runput W1 F1 (by omega) (by omega) (by omega) fun h2 ops2 fails2 cs2 R2 W2 O2 => ⟨_, _, rfl, by omega, by omega, ?_⟩
        have P2 := P1.nil O2 (by simp; omega)
        obtain ⟨V2, hok2⟩ := V.put hn (by omega) R2
        refine ldI_of ((ra h2 2 P2 (by omega)).trans (by rw [e2])) ⟨by omega, by omega, ?_⟩
        have B1 := (A1.only O1 (by simp)).only O2 (by simp; omega)
        have B2 := (A2.only O1 (by simp)).only O2 (by simp; omega)
        refine stK_at B1 (by rw [rowV_len]; exact hk) rfl fun h3 B3 O3 _ => ⟨by omega, by omega, stK_at (B2.only O3 (by simp [d1.symm])) (by rw [rowV_len]; exact hk) rfl fun h4 B4 O4 _ => ?_⟩
        have P4 := (P2.nil O3 (by simp [s3])).nil O4 (by simp [s4])
        have W4 := (W2.only O3 (by simp [d2.symm]) (by simp [d3.symm]) (by simp [d4.symm])).only O4 (by simp [d5.symm]) (by simp [d6.symm]) (by simp [d7.symm])
        rw [rowV_set] at B3 B4
        have C1 : At h4 b1 (rowV 256 fun j => .int .u64 (fset la k v j)) := by
          rw [rowV_ext (g' := fun j => if j = k then Value.int .u64 v else .int .u64 (la j)) fun j _ => by unfold fset; split <;> rfl]
          exact B3.only O4 (by simp [d1])
        have C2 : At h4 b2 (rowV 256 fun j => .bool (fset ha k true j)) := by
          rw [rowV_ext (g' := fun j => if j = k then Value.bool true else .bool (ha j)) fun j _ => by unfold fset; split <;> rfl]
          exact B4
        refine get_last s1 s2 d3 d4 d6 d7 (by omega : i + 1 ≤ 100) W4 V2 C1 C2 P4 fun h5 ops5 fails5 v' ok G hok W5 D1 D2 P5 => ⟨_, _, rfl, ?_⟩
        have okt : ok = true := hok2 _ _ G
        obtain ⟨-, y2⟩ := hok okt
        rw [bcase_false, okt, Bool.not_true, bcase_false]
        refine ⟨by omega, by omega, ldI_of ((ra h5 2 P5 (by omega)).trans (by rw [e2])) ?_⟩
        rw [y2, fset_same, bne_self_eq_false, bcase_false]
        exact ih (i + 1) cs2 _ _ ops5 fails5 h5 (by omega) (by omega) W5 V2 D1 D2 P5
    · rw [decide_eq_false (by omega), bcase_false]
      unfold F8.wk25 F8.Jk25
      refine clear_cw W (by decide) (fun l hl => by have := V l hl; exact ⟨this.1, by omega, this.2.2.1⟩) fun h1 ops1 fails1 cs1 z W1 O1 => ⟨rfl, ?_⟩
      have P1 := O.nil O1 (by simp; omega)
      unfold F8.wk27 F8.Jk27
      have : ∀ (g2 j : Nat) (x : Int) (h2 : Heap) (ops2 fails2 : Int), 52 - j < g2 → j ≤ 52 → x = 5 * (j : Int) → CW h2 c m mc 0 n cs1 ops2 fails2 → Only [] h0 h2 → F8.wL27 g2 (some ⟨c, 0, none⟩) x h2 (Lawful h0) := by
        intro g2
        induction g2 with
        | zero => intro j x h2 ops2 fails2 hj; omega
        | succ g2 ih2 =>
          intro j x h2 ops2 fails2 hj hj52 hx W2 P2
          unfold F8.wL27 F8.JL27
          by_cases hj' : x < 256
          case neg =>
            rw [decide_eq_false hj', bcase_false]
            exact ⟨rfl, P2⟩
          rw [decide_eq_true hj', bcase_true]
          rw [wrap_u64 (n := x) (by omega) (by omega)]
          refine get_cw W2 (by decide) fun f h3 F3 W3 O3 hf lf => ldP_of rfl ?_
          have lt := W2.lt
          have so := P2.size
          refine runget W3 F3 (by omega) (by omega) (by omega) fun h4 ops4 fails4 v ok G W4 O4 => ⟨_, _, rfl, ?_⟩
          have okf : ok = false := by
            rcases G with ⟨_, e, _⟩ | ⟨e, _⟩
            · obtain ⟨l, hl, el⟩ := line_lt (base := 0) (n := n) (key := x) hn
              rw [el, and_three (z l hl).1 (z l hl).2.1, (z l hl).2.2] at e
              exact absurd e (by decide)
            · exact e
          rw [okf, bcase_false, wrap_i64 (n := x + 5) (by omega) (by omega)]
          exact ih2 (j + 1) _ h4 ops4 fails4 (by omega) (by omega) (by omega) W4 ((P2.nil O3 (by simp)).nil O4 (by simp; omega))
      exact ⟨53, this 53 0 0 h1 ops1 fails1 (by omega) (by omega) (by omega) W1 P1⟩
end

theorem last_law (h : Heap) (v : Int) (hv : IntKind.min .u8 ≤ v ∧ v ≤ IntKind.max .u8) (p : Option Addr) (c L : Nat) (s : Nat → Nat → Value) (R : Recs h p L 3 s) (_ : (L : Int) ≤ maxLen)
    (f0 : ∀ i, i < L → ∃ b, s i 0 = .bool b) (f1 : ∀ i, i < L → ∃ n, s i 1 = .int .u8 n ∧ IntKind.min .u8 ≤ n ∧ n ≤ IntKind.max .u8) (f2 : ∀ i, i < L → ∃ n, s i 2 = .int .u64 n ∧ IntKind.min .u64 ≤ n ∧ n ≤ IntKind.max .u64) :
    CallsH Try.prog 8 [.int .u8 v, .slice p L c] h (Lawful h) := by
  apply F8.spec
  unfold F8.w F8.J0
  refine known7 fun h1 O1 => ldB_of rfl ?_
  rw [Bool.not_true, bcase_false]
  refine bcase_of (fun _ => ⟨rfl, O1⟩) fun hl => ?_
  simp at hl
  obtain ⟨w0, w1⟩ := tmod_fit hv (by omega : (0 : Int) < 8)
  obtain ⟨k, hk⟩ : ∃ k : Nat, v.tmod 8 = k := ⟨(v.tmod 8).toNat, by omega⟩
  rw [hk] at w0 w1 ⊢
  have g1 : IntKind.wrap .i64 (k : Int) = k := wrap_i64 (by omega) (by omega)
  have g2 : IntKind.wrap .i64 ((k : Int) + 1) = ((k + 1 : Nat) : Int) := by
    rw [wrap_i64 (by omega) (by omega)]
    simp
  rw [g1, g2]
  have hn1 : 1 ≤ k + 1 := by omega
  have hn9 : k + 1 ≤ 8 := by omega
  generalize k + 1 = n at *
  refine ⟨by decide, cells_spec (by omega) (by omega) (ldI_of rfl ?_)⟩
  rw [show (3 : Int) * (n : Int) = ((3 * n : Nat) : Int) by simp]
  refine new_spec fun m mc h2 M2 O2 hm hc => ldP_of rfl ?_
  rw [cellsFor_of (by omega)] at M2
  refine cacnew_spec (base := 0) (n := n) M2 (by omega) (by omega) (by simp) (by simp; omega) fun c' h3 C3 O3 hc3 => ⟨_, _, rfl, ?_⟩
  rw [show ((0 : Int) != 0) = false from rfl, bcase_false]
  have lm := M2.head.lt
  have lc := M2.body.lt
  have := O1.size
  have := O2.size
  have := O3.size
  have lcc := At.lt C3
  have W3 : CW h3 c' m mc 0 n (List.replicate (3 * n) 0) 0 0 := ⟨C3, M2.only O3 (by simp) (by simp), by omega, by omega, by omega, by omega, by simp, by simp; omega⟩
  refine newK_at fun h4 A4 O4 z4 => newK_at fun h5 A5 O5 z5 => ?_
  rw [rowV_const] at A4 A5
  unfold F8.wk13 F8.Jk13
  exact ⟨L + 1, last_loop (by omega) R f0 f1 f2 (by omega) (by omega) (by omega) (by omega) (by omega) (by omega) (by omega) (by omega) (by omega) (by omega) (by omega) (L + 1) 0 _ (fun _ => 0) (fun _ => false) 0 0 h5 (by omega) (by omega)
    ((W3.only O4 (by simp) (by simp) (by simp)).only O5 (by simp) (by simp) (by simp)) (fun l hl => by rw [zeros]; exact ⟨by decide, by omega, by decide, fun h => absurd h (by decide)⟩) (A4.only O5 (by simp)) A5 ((((O1.nil O2 (by simp)).nil O3 (by simp)).nil O4 (by simp)).nil O5 (by simp))⟩
end Go.Proofs.Ytbjdjgdbkfjglaa.Ev
