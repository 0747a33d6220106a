/- THE LAW OF A PUT THAT WAS LEFT (CacheLeft). Conditions: none. -/
import Derived.Test.YtbjdjgdbkfjglaaCacL
namespace Go.Proofs.Ytbjdjgdbkfjglaa.Ev
open Go

/-- what stands in a line was put -/
def RInv (n : Nat) (cs : List Int) (i : Nat) : Prop :=
  ∀ l, l < n → 0 ≤ cs.getD (0 + 3 * l) 0 ∧ cs.getD (0 + 3 * l) 0 ≤ 6 * i ∧
    (cs.getD (0 + 3 * l) 0 % 4 = 2 → ∃ k : Nat, cs.getD (0 + 3 * l + 1) 0 = k ∧ home k n = l ∧ (cs.getD (0 + 3 * l + 2) 0 = k + 100 ∨ (k = 3 ∧ cs.getD (0 + 3 * l + 2) 0 = 77)))
theorem RInv.put {n i k : Nat} {cs cs' : List Int} {v : Int} (H : RInv n cs i) (hn : 1 ≤ n) (hi : i ≤ 1000) (hv : v = k + 100 ∨ (k = 3 ∧ v = 77)) (R : PutRel (lineOf 0 n k) k v cs cs') : RInv n cs' (i + 1) := by
  have hl := home_lt (k : Int) hn
  have el : lineOf 0 n k = 0 + 3 * home k n := rfl
  rw [el] at R
  clear el
  obtain ⟨y, hy⟩ : ∃ y, home (k : Int) n = y := ⟨_, rfl⟩
  rw [hy] at hl R
  intro l hln
  obtain ⟨a, b, c⟩ := H l hln
  rcases R.2.2 with ⟨e0, e1, e2, e3⟩ | ⟨_, e⟩
  · by_cases h : l = y
    · subst h
      rw [or_two a (by omega), wrap_u64 (by omega) (by omega)] at e1
      rw [and_one a (by omega)] at e0
      rw [e1, e2, e3]
      exact ⟨by omega, by omega, fun _ => ⟨k, rfl, hy, hv⟩⟩
    · rw [R.2.1 _ (by omega) (by omega) (by omega), R.2.1 _ (by omega) (by omega) (by omega), R.2.1 _ (by omega) (by omega) (by omega)]
      exact ⟨a, by omega, c⟩
  · rw [e]
    exact ⟨a, by omega, c⟩
theorem RInv.get {n i k : Nat} {cs : List Int} {v : Int} {ok : Bool} (H : RInv n cs i) (hn : 1 ≤ n) (hi : i ≤ 1000) (G : GetRel (lineOf 0 n k) k cs v ok) : ok = true → v = k + 100 ∨ (k = 3 ∧ v = 77) := by
  intro hok
  have hl := home_lt (k : Int) hn
  have el : lineOf 0 n k = 0 + 3 * home k n := rfl
  rw [el] at G
  clear el
  generalize home (k : Int) n = y at hl G
  rcases G with ⟨_, g3, gk, gv⟩ | ⟨e, _⟩
  · obtain ⟨a, b, c⟩ := H y hl
    rw [and_three a (by omega)] at g3
    obtain ⟨k', x1, _, x3⟩ := c g3
    rw [x1] at gk
    have : k' = k := by omega
    subst this
    rw [gv]
    exact x3
  · rw [hok] at e; cases e
/-- a put that has begun from empty lines, wherever it was left -/
theorem left_inv {n N : Nat} {cs : List Int} {A : Ac} (hn : 1 ≤ n) (hN : N = 3 * n) (hp : A.pos = lineOf 0 n 3) (hk : A.key = 3) (hv : A.val = 77)
    (G : PInvA (List.replicate N 0) cs A ∨ PutRel (lineOf 0 n 3) 3 77 (List.replicate N 0) cs) : RInv n cs 1 := by
  have z : RInv n (List.replicate N 0) 0 := fun l hl => by rw [zeros]; exact ⟨by decide, by decide, fun h => absurd h (by decide)⟩
  rcases G with G | R
  · have hl := home_lt 3 hn
    have el : lineOf 0 n 3 = 0 + 3 * home 3 n := rfl
    obtain ⟨-, -, G⟩ := G
    rw [hk, hv, hp] at G
    rw [el] at G
    clear el hp
    generalize home 3 n = y at hl G
    have hlen : (List.replicate N (0 : Int)).length = N := by simp
    have one : bitsI .or .u64 0 1 = 1 := by decide
    intro l hln
    rcases G with ⟨_, rfl⟩ | ⟨_, ev, ⟨_, rfl⟩ | ⟨_, rfl⟩ | ⟨_, rfl⟩ | ⟨_, rfl⟩⟩
    · rw [zeros]; exact ⟨by decide, by decide, fun h => absurd h (by decide)⟩
    · rw [zeros]; exact ⟨by decide, by decide, fun h => absurd h (by decide)⟩
    all_goals
      rw [zeros] at ev
      rw [ev, one]
      have e0 : ∀ c : List Int, c.length = N → (c.getD (0 + 3 * l) 0 = if l = y then 1 else 0) → 0 ≤ c.getD (0 + 3 * l) 0 ∧ c.getD (0 + 3 * l) 0 ≤ 6 * ((1 : Nat) : Int) ∧ ¬ c.getD (0 + 3 * l) 0 % 4 = 2 := by
        intro c _ h
        rw [h]
        split <;> exact ⟨by decide, by decide, by decide⟩
      refine (fun (h : _ ∧ _ ∧ ¬ _) => ⟨h.1, h.2.1, fun h' => absurd h' h.2.2⟩) (e0 _ (by simp) ?_)
    · rw [getD_set (by simp; omega), zeros]
      by_cases h : l = y
      · rw [if_pos (by omega), if_pos h]
      · rw [if_neg (by omega), if_neg h]
    · rw [getD_set (by simp; omega), if_neg (by omega), getD_set (by simp; omega), zeros]
      by_cases h : l = y
      · rw [if_pos (by omega), if_pos h]
      · rw [if_neg (by omega), if_neg h]
    · rw [getD_set (by simp; omega), if_neg (by omega), getD_set (by simp; omega), if_neg (by omega), getD_set (by simp; omega), zeros]
      by_cases h : l = y
      · rw [if_pos (by omega), if_pos h]
      · rw [if_neg (by omega), if_neg h]
  · exact z.put hn (by omega) (k := 3) (v := 77) (Or.inr ⟨rfl, rfl⟩) R

section
variable {h0 : Heap} {c m mc n : Nat} {p : Option Addr} {cap : Nat} {ks : List Int}

theorem left_loop (hr : ∀ z ∈ ks, IntKind.min .u8 ≤ z ∧ z ≤ IntKind.max .u8) (hl : ks.length ≤ 30) (hI : Ints h0 .u8 p ks) (s1 : h0.size ≤ m) (s2 : h0.size ≤ mc) :
    ∀ (g i : Nat) (cs : List Int) (ops fails : Int) (h : Heap), ks.length - i < g → i ≤ ks.length → CW h c m mc 0 n cs ops fails → RInv n cs (i + 1) → Only [] h0 h →
      F10.wL16 g p ks.length cap (some ⟨c, 0, none⟩) (i : Int) h (Lawful h0) := by
  intro g
  induction g with
  | zero => intro i cs ops fails h hg; omega
  | succ g ih =>
    intro i cs ops fails h hg hi W V O
    have hn := W.hn
    unfold F10.wL16 F10.JL16
    by_cases hlt : i < ks.length
    · rw [decide_eq_true (by omega), bcase_true]
      obtain ⟨a, rfl, ha⟩ := hI.only O (by simp) i hlt
      obtain ⟨w0, w1⟩ := tmod_fit (range_getD hr hlt) (by omega : (0 : Int) < 5)
      refine ⟨by omega, by omega, ?_⟩
      rw [Int.toNat_natCast, Nat.mul_one, ha, ldI_some]
      obtain ⟨k, hk⟩ : ∃ k : Nat, (ks.getD i 0).tmod 5 = k := ⟨((ks.getD i 0).tmod 5).toNat, by omega⟩
      rw [hk] at w0 w1 ⊢
      have ei : IntKind.wrap .i64 ((i : Int) + 1) = ((i + 1 : Nat) : Int) := by rw [wrap_i64 (by omega) (by omega)]; simp
      have ek : IntKind.wrap .u64 (k : Int) = k := wrap_u64 (by omega) (by omega)
      have ek2 : IntKind.wrap .u64 ((k : Int) + 100) = k + 100 := wrap_u64 (by omega) (by omega)
      rw [ek, ek2]
      refine ⟨by decide, put_cw W (by decide) fun f h1 F1 W1 O1 hf lf => ldP_of rfl ?_⟩
      have lt := W.lt
      have so := O.size
      have s1' := O1.size
      refine runput W1 F1 (by omega) (by omega) (by omega) fun h2 ops2 fails2 cs2 R2 W2 O2 => ⟨_, _, rfl, ?_⟩
      have P2 := (O.nil O1 (by simp)).nil O2 (by simp; omega)
      have V2 := V.put hn (by omega) (Or.inl rfl) R2
      have s2' := O2.size
      refine get_cw W2 (by decide) fun f' h3 F3 W3 O3 hf' lf' => ldP_of rfl ?_
      have P3 := P2.nil O3 (by simp)
      have d : f' ≠ c ∧ f' ≠ m ∧ f' ≠ mc ∧ h0.size ≤ f' := by omega
      obtain ⟨d1, d2, d3, d4⟩ := d
      have hS : ∀ b ∈ [f', m, mc], h0.size ≤ b := by simp [d4, s1, s2]
      have rget : ∀ v ok, GetRel (lineOf 0 n k) k cs2 v ok → ok = true → v = k + 100 ∨ (k = 3 ∧ v = 77) := fun v ok G => V2.get hn (by omega) G
      -- the get is done
      have fin : ∀ (A : Ac) (ops4 fails4 : Int) (h4 : Heap), A.done = true → GetRel (lineOf 0 n k) k cs2 (gotV A) (gotB A) → ActIs h4 f' m A → CW h4 c m mc 0 n cs2 ops4 fails4 → Only [] h0 h4 →
          F10.wk25 (fun x1p x1l x1c x9 x13 h => F10.wL16 g x1p x1l x1c x9 x13 h (Lawful h0)) (some a) ks.length cap (some ⟨c, 0, none⟩) (i : Int) (k : Int) (some ⟨f', 0, none⟩) h4 (Lawful h0) := by
        intro A ops4 fails4 h4 hd G F4 W4 P4
        have nxt := ih (i + 1) cs2 ops4 fails4 h4 (by omega) (by omega) W4 V2 P4
        have hv := rget _ _ G
        unfold F10.wk25 F10.Jk25
        refine got_spec F4 ⟨_, _, rfl, doneA_spec F4 (ldB_of rfl ?_)⟩
        rw [hd, Bool.not_true, bcase_false, ei, ek2]
        refine bcase_of (fun e => bcase_of (fun e1 => ?_) fun _ => nxt) fun _ => nxt
        rcases hv e with e' | ⟨rfl, e'⟩
        · rw [e'] at e1
          simp at e1
        · rw [e', show (((3 : Nat) : Int) == 3) = true from rfl, bcase_true, show (!((77 : Int) == 77)) = false from rfl, bcase_false]
          exact nxt
      unfold F10.wk22 F10.Jk22
      have run : ∀ (g2 j : Nat) (A : Ac) (ops4 fails4 : Int) (h4 : Heap), 9 - A.ph < g2 → j + 5 ≤ A.ph → A.ph ≤ 8 → GInv cs2 A → A.pos = lineOf 0 n k → A.key = k → ActIs h4 f' m A → CW h4 c m mc 0 n cs2 ops4 fails4 → Only [] h0 h4 →
          F10.wL22 (fun x1p x1l x1c x9 x13 h => F10.wL16 g x1p x1l x1c x9 x13 h (Lawful h0)) (g2 + 1) (some a) ks.length cap (some ⟨c, 0, none⟩) (i : Int) (k : Int) (some ⟨f', 0, none⟩) (j : Int) h4 (Lawful h0) := by
        intro g2
        induction g2 with
        | zero => intro j A ops4 fails4 h4 hg; omega
        | succ g2 ih2 =>
          intro j A ops4 fails4 h4 hg hj hph G hp hkA F4 W4 P4
          unfold F10.wL22 F10.JL22
          rw [decide_eq_true (by omega), bcase_true]
          refine doneA_spec F4 (ldB_of rfl ?_)
          rw [G.1, Bool.not_false, bcase_true]
          refine stepA_cw W4 F4 (by rw [hp]; exact W4.pos _) hph d1 d2 d3 fun h5 ops5 fails5 F5 W5 O5 => ldB_of rfl ?_
          obtain ⟨t1, t2, t3, t4⟩ := G.step
          rw [t1] at W5
          have P5 := P4.nil O5 hS
          have ej : IntKind.wrap .i64 ((j : Int) + 1) = ((j + 1 : Nat) : Int) := by rw [wrap_i64 (by omega) (by omega)]; simp
          rw [ej]
          rcases t4 with ⟨e, r⟩ | ⟨G', e⟩
          · rw [hp, hkA] at r
            unfold F10.wL22 F10.JL22
            rw [decide_eq_true (by omega), bcase_true]
            refine doneA_spec F5 (ldB_of rfl ?_)
            rw [e, Bool.not_true, bcase_false]
            exact fin _ ops5 fails5 h5 e r F5 W5 P5
          · have hp8 : (stepA cs2 A).1.ph ≤ 8 := by
              rcases G'.2.2 with e' | ⟨e', _⟩ | ⟨e', _⟩ | ⟨e', _⟩ <;> omega
            exact ih2 (j + 1) _ ops5 fails5 h5 (by omega) (by omega) hp8 G' (t2.trans hp) (t3.trans hkA) F5 W5 P5
      exact ⟨6, run 5 0 (getA 0 n k) ops2 fails2 h3 (by show 9 - 5 < 5; omega) (by show 0 + 5 ≤ 5; omega) (by show 5 ≤ 8; omega) ⟨rfl, rfl, Or.inl rfl⟩ rfl rfl F3 W3 P3⟩
    · rw [decide_eq_false (by omega), bcase_false]
      exact ⟨rfl, O⟩
end

theorem left_law (h : Heap) (v : Int) (hv : IntKind.min .u8 ≤ v ∧ v ≤ IntKind.max .u8) (p : Option Addr) (c : Nat) (ks : List Int) (hI : Ints h .u8 p ks) (hr : ∀ z ∈ ks, IntKind.min .u8 ≤ z ∧ z ≤ IntKind.max .u8) (_ : (ks.length : Int) ≤ maxLen)
    (st : Int) (hst : IntKind.min .u8 ≤ st ∧ st ≤ IntKind.max .u8) :
    CallsH Try.prog 10 [.int .u8 v, .slice p ks.length c, .int .u8 st] h (Lawful h) := by
  apply F10.spec
  unfold F10.w F10.J0
  refine known7 fun h1 O1 => ldB_of rfl ?_
  rw [Bool.not_true, bcase_false]
  refine bcase_of (fun _ => ⟨rfl, O1⟩) fun hl => ?_
  simp at hl
  obtain ⟨w0, w1⟩ := tmod_fit hv (by omega : (0 : Int) < 4)
  obtain ⟨t0, t1⟩ := tmod_fit hst (by omega : (0 : Int) < 8)
  obtain ⟨k, hk⟩ : ∃ k : Nat, v.tmod 4 = k := ⟨(v.tmod 4).toNat, by omega⟩
  rw [hk] at w0 w1 ⊢
  have g1 : IntKind.wrap .i64 (k : Int) = k := wrap_i64 (by omega) (by omega)
  have g2 : IntKind.wrap .i64 ((k : Int) + 1) = ((k + 1 : Nat) : Int) := by
    rw [wrap_i64 (by omega) (by omega)]
    simp
  rw [g1, g2]
  have hn1 : 1 ≤ k + 1 := by omega
  have hn9 : k + 1 ≤ 4 := by omega
  generalize k + 1 = n at *
  refine ⟨by decide, cells_spec (by omega) (by omega) (ldI_of rfl ?_)⟩
  rw [show (3 : Int) * (n : Int) = ((3 * n : Nat) : Int) by simp]
  refine new_spec fun m mc h2 M2 O2 hm hc => ldP_of rfl ?_
  rw [cellsFor_of (by omega)] at M2
  refine cacnew_spec (base := 0) (n := n) M2 (by omega) (by omega) (by simp) (by simp; omega) fun c' h3 C3 O3 hc3 => ⟨_, _, rfl, ?_⟩
  rw [show ((0 : Int) != 0) = false from rfl, bcase_false]
  have lm := M2.head.lt
  have lc := M2.body.lt
  have := O1.size
  have := O2.size
  have := O3.size
  have lcc := At.lt C3
  have W3 : CW h3 c' m mc 0 n (List.replicate (3 * n) 0) 0 0 := ⟨C3, M2.only O3 (by simp) (by simp), by omega, by omega, by omega, by omega, by simp, by simp; omega⟩
  have P3 := (O1.nil O2 (by simp)).nil O3 (by simp)
  refine put_cw W3 (by decide) fun f h4 F4 W4 O4 hf lf => ldP_of rfl ?_
  have P4 := P3.nil O4 (by simp)
  have d : f ≠ c' ∧ f ≠ m ∧ f ≠ mc ∧ h.size ≤ f := by omega
  obtain ⟨d1, d2, d3, d4⟩ := d
  have hS : ∀ b ∈ [f, m, mc], h.size ≤ b := by simp; omega
  unfold F10.wk12 F10.Jk12
  have run : ∀ (g2 j : Nat) (A : Ac) (cs : List Int) (ops4 fails4 : Int) (h4 : Heap), 8 - j < g2 → j ≤ 8 → A.pos = lineOf 0 n 3 → A.key = 3 → A.val = 77 → A.ph ≤ 8 → (PInvA (List.replicate (3 * n) 0) cs A ∨ (A.done = true ∧ PutRel (lineOf 0 n 3) 3 77 (List.replicate (3 * n) 0) cs)) → ActIs h4 f m A → CW h4 c' m mc 0 n cs ops4 fails4 → Only [] h h4 →
      F10.wL12 g2 p ks.length c st (some ⟨c', 0, none⟩) (some ⟨f, 0, none⟩) (j : Int) h4 (Lawful h) := by
    intro g2
    induction g2 with
    | zero => intro j A cs ops4 fails4 h4 hg; omega
    | succ g2 ih2 =>
      intro j A cs ops4 fails4 h4 hg hj hp hkA hvA hph G F4 W4 P4
      unfold F10.wL12 F10.JL12
      rw [wrap_i64 (n := st.tmod 8) (by omega) (by omega)]
      refine ⟨by decide, ?_⟩
      by_cases hjt : (j : Int) < st.tmod 8
      · rw [decide_eq_true hjt, bcase_true]
        refine stepA_cw W4 F4 (by rw [hp]; exact W4.pos _) hph d1 d2 d3 fun h5 ops5 fails5 F5 W5 O5 => ldB_of rfl ?_
        rw [show IntKind.wrap .i64 ((j : Int) + 1) = ((j + 1 : Nat) : Int) by rw [wrap_i64 (by omega) (by omega)]; simp]
        have P5 := P4.nil O5 hS
        rcases G with G | ⟨hd, R⟩
        · obtain ⟨u1, u2, u3, u4⟩ := G.step (by rw [hp]; exact W3.pos _)
          rcases u4 with ⟨e, eo, r⟩ | ⟨G', e⟩
          · rw [hp, hkA, hvA] at r
            have hp8 : (stepA cs A).1.ph ≤ 8 := by
              have hph4 : A.ph ≤ 4 := by
                rcases G.2.2 with ⟨e', _⟩ | ⟨_, _, ⟨e', _⟩ | ⟨e', _⟩ | ⟨e', _⟩ | ⟨e', _⟩⟩ <;> omega
              unfold stepA
              repeat' split
              all_goals dsimp only
              all_goals omega
            exact ih2 (j + 1) _ _ ops5 fails5 h5 (by omega) (by omega) (u1.trans hp) (u2.trans hkA) (u3.trans hvA) hp8 (Or.inr ⟨e, r⟩) F5 W5 P5
          · have hp4 : (stepA cs A).1.ph ≤ 8 := by
              rcases G'.2.2 with ⟨e', _⟩ | ⟨_, _, ⟨e', _⟩ | ⟨e', _⟩ | ⟨e', _⟩ | ⟨e', _⟩⟩ <;> omega
            exact ih2 (j + 1) _ _ ops5 fails5 h5 (by omega) (by omega) (u1.trans hp) (u2.trans hkA) (u3.trans hvA) hp4 (Or.inl G') F5 W5 P5
        · have e : stepA cs A = (A, cs) := by unfold stepA; rw [if_pos hd]
          rw [e] at F5 W5
          exact ih2 (j + 1) A cs ops5 fails5 h5 (by omega) (by omega) hp hkA hvA hph (Or.inr ⟨hd, R⟩) F5 W5 P5
      · rw [decide_eq_false hjt, bcase_false]
        unfold F10.wk15 F10.Jk15 F10.wk16 F10.Jk16
        have V : RInv n cs 1 := left_inv hn1 rfl hp hkA hvA (G.imp id And.right)
        exact ⟨ks.length + 1, left_loop hr (by omega) hI (by omega) (by omega) (ks.length + 1) 0 cs ops4 fails4 h4 (by omega) (by omega) W4 V P4⟩
  exact ⟨9, run 9 0 (putA 0 n 3 77) _ 0 0 h4 (by omega) (by omega) rfl rfl rfl (by show 0 ≤ 8; omega) (Or.inl ⟨rfl, rfl, Or.inl ⟨rfl, rfl⟩⟩) F4 W4 P4⟩
end Go.Proofs.Ytbjdjgdbkfjglaa.Ev
