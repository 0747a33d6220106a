/- THE LAW OF PLAYS (TablePlays): finders one behind the other. Conditions: none. -/
import Derived.Test.YtbjdjgdbkfjglaaTabE
import Derived.Test.YtbjdjgdbkfjglaaEvL
namespace Go.Proofs.Ytbjdjgdbkfjglaa.Ev
open Go

theorem stepF_of_done {base n : Nat} {cs : List Int} {F : Fi} (h : F.done = true) : stepF base n cs F = (F, cs) := by unfold stepF; rw [if_pos h]

section
variable {h0 : Heap} {t m mc n : Nat} {p : Option Addr} {cap : Nat} {ks : List Int}
/-- what is there -/
structure PInv (n : Nat) (cs zs : List Int) : Prop where
  T : TInv 3 n cs
  cnt : cnt 3 cs n = zs.length
  sub : ∀ x, x < n → cell 3 cs x ≠ 0 → cell 3 cs x ∈ zs
  all : ∀ k, k ∈ zs → k ≠ 0 ∧ ∃ x, x < n ∧ cell 3 cs x = k

theorem plays7_loop (hl : ks.length ≤ 40) (hI : Ints h0 .u64 p ks) (s1 : h0.size ≤ m) (s2 : h0.size ≤ mc) :
    ∀ (g i : Nat) (cs zs : List Int) (q : Option Addr) (c : Nat) (ops fails : Int) (h : Heap), ks.length - i < g → i ≤ ks.length → zs.length ≤ i → PInv n cs zs → n ≤ 16 →
      TW h t m mc 3 n cs ops fails → Own h h0.size 1 q zs.length c (zs.map (.int .u64)) → m ∉ OwnB q → mc ∉ OwnB q → t ∉ OwnB q → Only [] h0 h →
      F7.wL12 g p ks.length cap (n : Int) (some ⟨t, 0, none⟩) q zs.length c (i : Int) h (Lawful h0) := by
  intro g
  induction g with
  | zero => intro i cs zs q c ops fails h hg; omega
  | succ g ih =>
    intro i cs zs q c ops fails h hg hi hz V n16 W Q q1 q2 q3 O
    have hM : ∀ x ∈ [m, mc], h0.size ≤ x := by simp; omega
    unfold F7.wL12 F7.JL12
    by_cases hlt : i < ks.length
    · rw [decide_eq_true (by omega), bcase_true]
      have hn := W.hn
      obtain ⟨a, rfl, ha⟩ := hI.only O (by simp) i hlt
      have hkey : ∀ h', Only [] h0 h' → rd h' (a.add i) = some (.int .u64 (ks.getD i 0)) := by
        intro h' O'
        obtain ⟨a', e, ha'⟩ := hI.only O' (by simp) i hlt
        injection e with e
        subst e
        exact ha'
      clear ha
      have e1 : IntKind.wrap .i64 ((i : Int) + 1) = ((i + 1 : Nat) : Int) := by rw [wrap_i64 (by omega) (by omega)]; simp
      have e3 : IntKind.wrap .i64 (IntKind.wrap .i64 (3 * (n : Int)) + 3) = 3 * (n : Int) + 3 := by rw [wrap_i64 (n := 3 * (n : Int)) (by omega) (by omega), wrap_i64 (by omega) (by omega)]
      generalize hk : ks.getD i 0 = key at hkey
      -- Has and Len behind the finder
      have hlast : ∀ (cs' zs' : List Int) (q' : Option Addr) (c' : Nat) (ops' fails' : Int) (h' : Heap) (x e : Int), PInv n cs' zs' → zs'.length ≤ i + 1 → TW h' t m mc 3 n cs' ops' fails' → Own h' h0.size 1 q' zs'.length c' (zs'.map (.int .u64)) → m ∉ OwnB q' → mc ∉ OwnB q' → t ∉ OwnB q' → Only [] h0 h' →
          (key ≠ 0 → ((e = 0 ∧ ∃ y : Nat, y < n ∧ x = y ∧ cell 3 cs' y = key) ∨ (e ≠ 0 ∧ ∀ y, y < n → cell 3 cs' y ≠ key))) →
          F7.wk36 (fun x1p x1l x1c x5 x7 x9p x9l x9c x10 h => F7.wL12 g x1p x1l x1c x5 x7 x9p x9l x9c x10 h (Lawful h0)) (some a) ks.length cap (n : Int) (some ⟨t, 0, none⟩) q' zs'.length c' (i : Int) x e h' (Lawful h0) := by
        intro cs' zs' q' c' ops' fails' h' x e V' hz' W' Q' r1 r2 r3 P' hxe
        unfold F7.wk36 F7.Jk36
        refine ⟨by omega, by omega, ?_⟩
        simp only [Int.toNat_natCast, Nat.mul_one, hkey h' P', ldI_some]
        have fin : ∀ (h2 : Heap) (ops2 : Int), TW h2 t m mc 3 n cs' ops2 fails' → Only [m, mc] h' h2 → CallsH Try.prog 20 [(.pointer (some ⟨t, 0, none⟩))] h2 (fun v9 h10 => ldI .i64 (some v9) (fun n11 => bcase (n11 != (Nat.cast zs'.length : Int)) (Lawful h0 (.bool false) h10)
            (F7.wL12 g (some a) ks.length cap (n : Int) (some ⟨t, 0, none⟩) q' zs'.length c' (IntKind.wrap .i64 ((i : Int) + (1 : Int))) h10 (Lawful h0)))) := by
          intro h2 ops2 W2 O2
          refine len_tw W2 fun h3 ops3 W3 O3 => ldI_of rfl ?_
          rw [V'.cnt, bne_self_eq_false, bcase_false, e1]
          refine ih (i + 1) cs' zs' q' c' ops3 fails' h3 (by omega) (by omega) hz' V' n16 W3 ((Q'.only O2 ?_).only O3 ?_) r1 r2 r3 ((P'.nil O2 hM).nil O3 hM)
          all_goals
            intro b hb
            subst hb
            simp [OwnB] at r1 r2
            simp [Ne.symm r1, Ne.symm r2]
        have P2 : ∀ h2, Only [m, mc] h' h2 → rd h2 (a.add i) = some (.int .u64 key) := fun h2 O2 => hkey h2 (P'.nil O2 hM)
        refine has_tw W' (fun y h2 ops2 hk0 hy ey W2 O2 => ⟨_, _, rfl, by omega, by omega, ?_⟩) (fun h2 ops2 hno W2 O2 => ⟨_, _, rfl, by omega, by omega, ?_⟩)
        · simp only [Int.toNat_natCast, Nat.mul_one, P2 h2 O2, ldI_some]
          rw [show (key != 0) = true by simpa using hk0, bcase_true]
          rcases hxe hk0 with ⟨ee, y', hy', ex, ey'⟩ | ⟨_, hno⟩
          · have : y = y' := V'.T.uniq hy hy' (by rw [ey]; exact hk0) (by rw [ey, ey'])
            subst this
            rw [ee, show ((0 : Int) == 0) = true from rfl, show (!(true == true)) = false from rfl, bcase_false, bcase_true, ex, bne_self_eq_false, bcase_false]
            exact fin h2 ops2 W2 O2
          · exact absurd ey (hno y hy)
        · simp only [Int.toNat_natCast, Nat.mul_one, P2 h2 O2, ldI_some]
          by_cases hk0 : key = 0
          · rw [show (key != 0) = false by simp [hk0], bcase_false]
            exact fin h2 ops2 W2 O2
          · rw [show (key != 0) = true by simpa using hk0, bcase_true]
            rcases hxe hk0 with ⟨_, y', hy', _, ey'⟩ | ⟨ne, _⟩
            · exact absurd ey' ((hno.resolve_left hk0) y' hy')
            · rw [show (e == 0) = false by simpa using ne, show (!(false == false)) = false from rfl, bcase_false, bcase_false]
              exact fin h2 ops2 W2 O2
      -- the finder
      have hfind : F7.wk19 (fun x1p x1l x1c x5 x7 x9p x9l x9c x10 h => F7.wL12 g x1p x1l x1c x5 x7 x9p x9l x9c x10 h (Lawful h0)) (some a) ks.length cap (n : Int) (some ⟨t, 0, none⟩) q zs.length c (i : Int) (decide (key ∈ zs)) h (Lawful h0) := by
        unfold F7.wk19 F7.Jk19
        refine ⟨by omega, by omega, ?_⟩
        simp only [Int.toNat_natCast, Nat.mul_one, hkey h O, ldI_some]
        refine find_tw W fun f h1 H1 W1 O1 hf => ldP_of rfl ?_
        have P1 := O.nil O1 (by simp)
        have Q1 := Q.only O1 (by simp)
        have lt := W.lt
        have hS : ∀ x ∈ [f, m, mc], h0.size ≤ x := by have := O.size; simp; omega
        have d1 : f ≠ t := by omega
        have d2 : f ≠ m := by omega
        have d3 : f ≠ mc := by omega
        have d4 : f ∉ OwnB q := fun hq => by have := (Q.lt f hq).2; omega
        have hq : ∀ b, q = some ⟨b, 0, none⟩ → b ∉ [f, m, mc] := by
          intro b hb
          subst hb
          simp [OwnB] at q1 q2 d4
          simp [Ne.symm q1, Ne.symm q2, Ne.symm d4]
        have hqm : ∀ b, q = some ⟨b, 0, none⟩ → b ∉ [m, mc] := by
          intro b hb
          have := hq b hb
          simp at this ⊢
          exact this.2
        have hend : ∀ (cs' : List Int) (ops' fails' : Int) (F : Fi) (h' : Heap), F.done = true → F.key = key → Run 3 n cs cs' F → FindIs h' f t F → TW h' t m mc 3 n cs' ops' fails' → Own h' h0.size 1 q zs.length c (zs.map (.int .u64)) → Only [] h0 h' →
            F7.wk23 (fun x1p x1l x1c x5 x7 x9p x9l x9c x10 h => F7.wL12 g x1p x1l x1c x5 x7 x9p x9l x9c x10 h (Lawful h0)) (some a) ks.length cap (n : Int) (some ⟨t, 0, none⟩) q zs.length c (i : Int) (decide (key ∈ zs)) (some ⟨f, 0, none⟩) h' (Lawful h0) := by
          intro cs' ops' fails' F h' hd hFk R H' W' Q' P'
          obtain ⟨ok, T', G, D⟩ := R
          unfold F7.wk23 F7.Jk23
          refine slot_spec H' ⟨_, _, rfl, done_spec H' (ldB_of rfl ?_)⟩
          rw [hd, Bool.not_true, bcase_false]
          refine ⟨by omega, by omega, ?_⟩
          simp only [Int.toNat_natCast, Nat.mul_one, hkey h' P', ldI_some]
          by_cases hk0 : key = 0
          · rw [show (key == 0) = true by simp [hk0], bcase_true]
            rcases ok.ended hd with ⟨_, b, e, _⟩ | ⟨b, _⟩ | ⟨b, _⟩
            · rw [b, e, show ((61 : Int) != 61) = false from rfl, bcase_false, show ((-1 : Int) != -1) = false from rfl, bcase_false]
              rcases D with ⟨_, dc⟩ | ⟨_, _, _, b, _⟩
              · subst dc
                exact hlast cs' zs q c ops' fails' h' _ _ V (by omega) W' Q' q1 q2 q3 P' fun hne => absurd hk0 hne
              · exact absurd (hFk ▸ hk0) b
            · exact absurd (hFk ▸ hk0) b
            · exact absurd (hFk ▸ hk0) b
          · rw [show (key == 0) = false by simpa using hk0, bcase_false]
            by_cases hin : key ∈ zs
            · rw [decide_eq_true hin, bcase_true]
              obtain ⟨-, y, hy, ey⟩ := V.all key hin
              rcases D with ⟨dm, dc⟩ | ⟨_, _, _, _, x, hx, _, _, habs, _⟩
              · subst dc
                rcases ok.ended hd with ⟨b, _⟩ | ⟨_, b, x, hx, es, ex⟩ | ⟨_, _, _, _, b⟩
                · exact absurd (hFk.symm.trans b) hk0
                · rw [b, es, show ((0 : Int) != 0) = false from rfl, bcase_false]
                  refine ⟨by omega, by omega, ?_⟩
                  simp only [Int.toNat_natCast, Nat.mul_one, hkey h' P', ldI_some]
                  refine at_tw W' hx fun h2 W2 O2 => ldI_of rfl ⟨by trivial, by trivial, by omega, by omega, by trivial, ?_⟩
                  have P2 := P'.nil O2 hM
                  rw [hkey h2 P2, ldI_some]
                  refine ⟨rfl, ?_⟩
                  rw [ex, hFk, bne_self_eq_false, bcase_false]
                  refine made_spec (H'.only O2 (by simp [d2, d3])) (ldB_of rfl ⟨by trivial, by trivial, ?_⟩)
                  rw [dm, show (!(false == !true)) = false from rfl, bcase_false, Bool.not_true, bcase_false]
                  exact hlast cs' zs q c _ fails' h2 _ _ V (by omega) W2 (Q'.only O2 hqm) q1 q2 q3 P2 fun _ => Or.inl ⟨rfl, x, hx, rfl, ex.trans hFk⟩
                · exact absurd ey (hFk ▸ (b y hy).2)
              · exact absurd ey (hFk ▸ habs y hy)
            · rw [decide_eq_false hin, bcase_false]
              have nokey : ∀ y, y < n → cell 3 cs y ≠ key := fun y hy e => hin (e ▸ V.sub y hy (by rw [e]; exact hk0))
              by_cases hroom : zs.length < n
              · rw [decide_eq_true (by omega), bcase_true]
                rcases D with ⟨dm, dc⟩ | ⟨dm, _, de, _, x, hx, hslot, hxz, habs, hset⟩
                · subst dc
                  rcases ok.ended hd with ⟨b, _⟩ | ⟨_, b, x, hx, es, ex⟩ | ⟨_, _, _, _, b⟩
                  · exact absurd (hFk.symm.trans b) hk0
                  · exact absurd (ex.trans hFk) (nokey x hx)
                  · have := cnt_full n fun x hx => (b x hx).1
                    have := V.cnt
                    omega
                · have hlen : 3 + x < cs.length := by have := W.hc; omega
                  have hc' : cell 3 cs' x = key := by rw [hset, cell_set hlen, if_pos rfl, hFk]
                  have hcnt' : cnt 3 cs' n = zs.length + 1 := by rw [hset, cnt_set (by rw [hFk]; exact hk0) hxz hlen, if_pos hx, V.cnt]
                  rw [de, hslot, show ((0 : Int) != 0) = false from rfl, bcase_false]
                  refine ⟨by omega, by omega, ?_⟩
                  simp only [Int.toNat_natCast, Nat.mul_one, hkey h' P', ldI_some]
                  refine at_tw W' hx fun h2 W2 O2 => ldI_of rfl ⟨by trivial, by trivial, by omega, by omega, by trivial, ?_⟩
                  have P2 := P'.nil O2 hM
                  rw [hkey h2 P2, ldI_some]
                  refine ⟨rfl, ?_⟩
                  rw [hc', bne_self_eq_false, bcase_false]
                  refine made_spec (H'.only O2 (by simp [d2, d3])) (ldB_of rfl ⟨by trivial, by trivial, ?_⟩)
                  rw [dm, show (!(true == !false)) = false from rfl, bcase_false, Bool.not_false, bcase_true]
                  refine ⟨by omega, by omega, ?_⟩
                  simp only [Int.toNat_natCast, Nat.mul_one, hkey h2 P2, ldI_some]
                  refine newK_at fun h3 A3 O3 z3 => ?_
                  have P3 := P2.nil O3 (by simp)
                  have W3 := W2.only O3 (by simp) (by simp) (by simp)
                  have lt3 := W3.lt
                  have lt2 := W2.lt
                  refine own_app ((Q'.only O2 hqm).only O3 (by simp)) A3 rfl rfl (by omega) (by simp [Value.oneCell']) (by have := P3.size; omega) fun q' c' h4 Q4 O4 b4 => ?_
                  have hqb : ∀ b ∈ OwnB q', b ≠ m ∧ b ≠ mc ∧ b ≠ t := by
                    intro b hb
                    rcases b4 b hb with hb | hb
                    · exact ⟨fun e => q1 (e ▸ hb), fun e => q2 (e ▸ hb), fun e => q3 (e ▸ hb)⟩
                    · omega
                  have W4 := W3.only O4 q3 q1 q2
                  have P4 := P3.nil O4 fun b hb => (Q.lt b hb).1
                  have Q4 : Own h4 h0.size 1 q' (zs ++ [key]).length c' ((zs ++ [key]).map (.int .u64)) := by simpa using Q4
                  rw [show zs.length + 1 = (zs ++ [key]).length by simp]
                  refine hlast cs' (zs ++ [key]) q' c' _ fails' h4 _ _ ⟨T', by simpa using hcnt', fun y hy hnz => ?_, fun k hk => ?_⟩ (by simp; omega) W4 Q4 (fun e => (hqb m e).1 rfl) (fun e => (hqb mc e).2.1 rfl) (fun e => (hqb t e).2.2 rfl) P4 fun _ => Or.inl ⟨rfl, x, hx, rfl, hc'⟩
                  · rw [hset, cell_set hlen] at hnz ⊢
                    by_cases h' : y = x
                    · rw [if_pos h', hFk]; simp
                    · rw [if_neg h'] at hnz ⊢
                      simp [V.sub y hy hnz]
                  · rcases List.mem_append.1 hk with hk | hk
                    · obtain ⟨b, y, hy, ey⟩ := V.all k hk
                      exact ⟨b, y, hy, by rw [G.2.1 y hy (by rw [ey]; exact b), ey]⟩
                    · obtain rfl : k = key := by simpa using hk
                      exact ⟨hk0, x, hx, hc'⟩
              · rw [decide_eq_false (by omega), bcase_false]
                have full := cnt_le 3 cs n
                have := V.cnt
                have full : ∀ y, y < n → cell 3 cs y ≠ 0 := by
                  have hc : cnt 3 cs n = n := by omega
                  have : ∀ k, k ≤ n → cnt 3 cs k = k → ∀ y, y < k → cell 3 cs y ≠ 0 := by
                    intro k
                    induction k with
                    | zero => intro _ _ y hy; omega
                    | succ k ihk =>
                      intro hk hck y hy
                      unfold cnt at hck
                      have := cnt_le 3 cs k
                      by_cases hz : cell 3 cs k = 0
                      · rw [if_pos hz] at hck; omega
                      · rw [if_neg hz] at hck
                        by_cases h' : y = k
                        · rw [h']; exact hz
                        · exact ihk (by omega) (by omega) y (by omega)
                  exact this n (Nat.le_refl _) hc
                rcases D with ⟨dm, dc⟩ | ⟨_, _, _, _, x, hx, _, hxz, _⟩
                · subst dc
                  rcases ok.ended hd with ⟨b, _⟩ | ⟨_, b, x, hx, es, ex⟩ | ⟨_, b, es, _, _⟩
                  · exact absurd (hFk.symm.trans b) hk0
                  · exact absurd (ex.trans hFk) (nokey x hx)
                  · rw [b, es, show ((60 : Int) != 60) = false from rfl, bcase_false, show ((-1 : Int) != -1) = false from rfl, bcase_false]
                    refine made_spec H' (ldB_of rfl ?_)
                    rw [dm, bcase_false]
                    exact hlast cs' zs q c _ fails' h' _ _ V (by omega) W' Q' q1 q2 q3 P' fun _ => Or.inr ⟨by decide, nokey⟩
                · exact absurd hxz (full x hx)
        have run : ∀ (g2 j : Nat) (cs' : List Int) (ops' fails' : Int) (F : Fi) (h' : Heap), pot 3 cs' F < g2 → j + pot 3 cs' F ≤ 3 * n → F.key = key → Run 3 n cs cs' F → FindIs h' f t F → TW h' t m mc 3 n cs' ops' fails' → Own h' h0.size 1 q zs.length c (zs.map (.int .u64)) → Only [] h0 h' →
            F7.wL21 (fun x1p x1l x1c x5 x7 x9p x9l x9c x10 h => F7.wL12 g x1p x1l x1c x5 x7 x9p x9l x9c x10 h (Lawful h0)) g2 (some a) ks.length cap (n : Int) (some ⟨t, 0, none⟩) q zs.length c (i : Int) (decide (key ∈ zs)) (some ⟨f, 0, none⟩) (j : Int) h' (Lawful h0) := by
          intro g2
          induction g2 with
          | zero => intro j cs' ops' fails' F h' hp; omega
          | succ g2 ih2 =>
            intro j cs' ops' fails' F h' hp hj hFk R H' W' Q' P'
            unfold F7.wL21 F7.JL21
            rw [e3, decide_eq_true (by omega), bcase_true]
            refine step_tw W' H' R.1 d1 d2 d3 fun h2 fails2 H2 W2 O2 => ldB_of rfl ?_
            have P2 := P'.nil O2 hS
            have Q2 := Q'.only O2 hq
            obtain ⟨R2, k2⟩ := R.step hn W'.hc
            by_cases hd : (stepF 3 n cs' F).1.done = true
            · rw [hd, Bool.not_true, bcase_false]
              exact hend _ _ _ _ h2 hd (k2.trans hFk) R2 H2 W2 Q2 P2
            · have hd' : (stepF 3 n cs' F).1.done = false := by simpa using hd
              rw [hd', Bool.not_false, bcase_true, show IntKind.wrap .i64 ((j : Int) + 1) = ((j + 1 : Nat) : Int) by rw [wrap_i64 (by omega) (by omega)]; simp]
              have hF : F.done = false := by
                cases hF : F.done with
                | false => rfl
                | true =>
                  rw [stepF_of_done hF] at hd
                  exact absurd hF hd
              have := pot_step R.1 hF
              exact ih2 (j + 1) _ _ _ _ h2 (by omega) (by omega) (k2.trans hFk) R2 H2 W2 Q2 P2
        unfold F7.wk21 F7.Jk21
        have := pot_new (base := 3) (cs := cs) (key := key) hn
        exact ⟨3 * n + 1, run (3 * n + 1) 0 cs ops fails (newFi key n) h1 (by omega) (by omega) rfl (Run.new hn V.T) H1 W1 Q1 P1⟩
      unfold F7.wk16 F7.Jk16
      have look : ∀ (g2 j : Nat), zs.length - j < g2 → j ≤ zs.length →
          F7.wL16 (fun x1p x1l x1c x5 x7 x9p x9l x9c x10 h => F7.wL12 g x1p x1l x1c x5 x7 x9p x9l x9c x10 h (Lawful h0)) g2 (some a) ks.length cap (n : Int) (some ⟨t, 0, none⟩) q zs.length c (i : Int) (decide (key ∈ zs.take j)) (j : Int) h (Lawful h0) := by
        intro g2
        induction g2 with
        | zero => intro j hj; omega
        | succ g2 ih2 =>
          intro j hj hjl
          unfold F7.wL16 F7.JL16
          by_cases hjt : j < zs.length
          · have ej : IntKind.wrap .i64 ((j : Int) + 1) = ((j + 1 : Nat) : Int) := by rw [wrap_i64 (by omega) (by omega)]; simp
            have et : decide (key ∈ zs.take (j + 1)) = (decide (key ∈ zs.take j) || (zs[j] == key)) := by
              rw [List.take_succ_eq_append_getElem hjt, Bool.eq_iff_iff]
              simp only [decide_eq_true_eq, List.mem_append, List.mem_singleton, Bool.or_eq_true, beq_iff_eq]
              exact or_congr Iff.rfl eq_comm
            rw [decide_eq_true (by omega : (j : Int) < (zs.length : Int)), bcase_true, ej]
            have nxt := ih2 (j + 1) (by omega) (by omega)
            rw [et] at nxt
            by_cases hin : key ∈ zs.take j
            · rw [decide_eq_true hin, bcase_true]
              rw [decide_eq_true hin, Bool.true_or] at nxt
              exact nxt
            · rw [decide_eq_false hin, bcase_false]
              rw [decide_eq_false hin, Bool.false_or] at nxt
              obtain ⟨b, rfl, hb⟩ := Q.rd (j := j) (by simpa using hjt)
              refine ⟨by omega, by omega, ?_⟩
              simp only [add_mk, Nat.zero_add, Int.toNat_natCast, Nat.mul_one, hb, hkey h O]
              refine ldI_of (n := zs[j]) (by simp [hjt]) ⟨by omega, by omega, ?_⟩
              exact ldI_of (by first | rfl | exact hkey h O) nxt
          · rw [decide_eq_false (by omega), bcase_false]
            rw [List.take_of_length_le (by omega)]
            exact hfind
      exact ⟨zs.length + 1, by simpa using look (zs.length + 1) 0 (by omega) (by omega)⟩
    · rw [decide_eq_false (by omega), bcase_false]
      unfold F7.wk39 F7.Jk39
      refine clear_tw W fun h1 ops1 cs1 hz1 _ W1 O1 => ⟨rfl, len_tw W1 fun h2 ops2 W2 O2 => ldI_of rfl ?_⟩
      rw [cnt_zero n hz1, show (((0 : Nat) : Int) == 0) = true from rfl, bcase_true]
      refine at_none W2.tab (Or.inl (by decide)) (ldI_of rfl ?_)
      rw [show ((0 : Int) == 0) = true from rfl, bcase_true]
      refine at_none W2.tab (Or.inr (by omega)) (ldI_of rfl ⟨rfl, (O.nil O1 hM).nil O2 hM⟩)
end

theorem tplays_law (h : Heap) (v : Int) (hv : IntKind.min .u8 ≤ v ∧ v ≤ IntKind.max .u8) (p : Option Addr) (c : Nat) (ks : List Int) (hI : Ints h .u64 p ks) (_ : ∀ z ∈ ks, IntKind.min .u64 ≤ z ∧ z ≤ IntKind.max .u64) (_ : (ks.length : Int) ≤ maxLen) :
    CallsH Try.prog 7 [.int .u8 v, .slice p ks.length c] h (Lawful h) := by
  apply F7.spec
  unfold F7.w F7.J0
  refine known6 fun h1 O1 => ldB_of rfl ?_
  rw [Bool.not_true, bcase_false]
  refine bcase_of (fun _ => ⟨rfl, O1⟩) fun hl => ?_
  simp at hl
  obtain ⟨w0, w1⟩ := tmod_fit hv (by omega : (0 : Int) < 16)
  obtain ⟨k, hk⟩ : ∃ k : Nat, v.tmod 16 = k := ⟨(v.tmod 16).toNat, by omega⟩
  rw [hk] at w0 w1 ⊢
  have f1 : IntKind.wrap .i64 (k : Int) = k := wrap_i64 (by omega) (by omega)
  have f2 : IntKind.wrap .i64 ((k : Int) + 1) = ((k + 1 : Nat) : Int) := by
    rw [wrap_i64 (by omega) (by omega)]
    simp
  have f3 : IntKind.wrap .i64 (((k + 1 : Nat) : Int) + 3) = ((k + 4 : Nat) : Int) := by
    rw [wrap_i64 (by omega) (by omega)]
    simp
    omega
  rw [f1, f2, f3]
  refine ⟨by decide, new_spec fun m mc h2 M2 O2 hm hc => ldP_of rfl ?_⟩
  have el : cellsFor ((k + 4 : Nat) : Int) = k + 4 := cellsFor_of (by omega)
  rw [el] at M2
  refine tabnew_spec (base := 3) (n := k + 1) M2 (by omega) (by simp; omega) (by simp; omega) fun t h3 T3 O3 ht => ⟨_, _, rfl, ?_⟩
  rw [show ((0 : Int) != 0) = false from rfl, bcase_false]
  refine slots_spec T3 (ldI_of rfl ?_)
  rw [bne_self_eq_false, bcase_false]
  have lm := M2.head.lt
  have lc := M2.body.lt
  have := O1.size
  have := O2.size
  have hz : ∀ x, x < k + 1 → cell 3 (List.replicate (k + 4) (0 : Int)) x = 0 := by
    intro x hx
    unfold cell
    simp [List.getD, show 3 + x < k + 4 by omega]
  have W3 : TW h3 t m mc 3 (k + 1) (List.replicate (k + 4) 0) 0 0 := ⟨T3, M2.only O3 (by simp) (by simp), by omega, by omega, by omega, by omega, by omega, by simp; omega⟩
  unfold F7.wk12 F7.Jk12
  exact ⟨ks.length + 1, plays7_loop (by omega) hI (by omega) (by omega) (ks.length + 1) 0 _ [] none 0 0 0 h3 (by omega) (by omega) (by simp) ⟨TInv.empty hz, cnt_zero _ hz, fun x hx hnz => absurd (hz x hx) hnz, by simp⟩ (by omega) W3 (Own.nil _ _ _) (by simp [OwnB]) (by simp [OwnB]) (by simp [OwnB]) ((O1.nil O2 (by simp)).nil O3 (by simp))⟩
end Go.Proofs.Ytbjdjgdbkfjglaa.Ev
