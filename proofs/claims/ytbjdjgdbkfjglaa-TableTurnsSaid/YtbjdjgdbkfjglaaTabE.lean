/- THE TABLE's FUNCTIONS over one bundle (TW); the self-test of its laws. Conditions: none. -/
import Derived.Test.YtbjdjgdbkfjglaaTabP
import Derived.Test.YtbjdjgdbkfjglaaL6F
import Derived.Test.YtbjdjgdbkfjglaaEvK
namespace Go.Proofs.Ytbjdjgdbkfjglaa.Ev
open Go

theorem stepF_len {base n : Nat} {cs : List Int} {F : Fi} : (stepF base n cs F).2.length = cs.length := by
  unfold stepF
  repeat' split
  all_goals simp

/-- a table over its cells -/
structure TW (h : Heap) (t m mc base n : Nat) (cs : List Int) (ops fails : Int) : Prop where
  tab : TabIs h t m base n
  mem : MemIs h m mc cs ops fails
  d4 : t ≠ m
  d5 : t ≠ mc
  hn : 1 ≤ n
  hn2 : n < 1000000000
  hb : base < 1000000000
  hc : base + n ≤ cs.length

section
variable {h h' : Heap} {f t m mc base n : Nat} {cs cs' : List Int} {ops fails ops' fails' : Int} {F : Fi} {K : Value → Heap → Prop} {S : List Nat}

theorem TW.only (W : TW h t m mc base n cs ops fails) (O : Only S h h') (h1 : t ∉ S) (h2 : m ∉ S) (h3 : mc ∉ S) : TW h' t m mc base n cs ops fails :=
  ⟨W.tab.only O h1, W.mem.only O h2 h3, W.d4, W.d5, W.hn, W.hn2, W.hb, W.hc⟩
theorem TW.next (W : TW h t m mc base n cs ops fails) (O : Only [m, mc] h h') (M : MemIs h' m mc cs ops' fails') : TW h' t m mc base n cs ops' fails' :=
  ⟨W.tab.only O (by simp [W.d4, W.d5]), M, W.d4, W.d5, W.hn, W.hn2, W.hb, W.hc⟩
theorem step_tw (W : TW h t m mc base n cs ops fails) (H : FindIs h f t F) (k : Fok base n cs F) (d1 : f ≠ t) (d2 : f ≠ m) (d3 : f ≠ mc)
    (hK : ∀ h' fails', FindIs h' f t (stepF base n cs F).1 → TW h' t m mc base n (stepF base n cs F).2 (if F.done then ops else up ops) fails' → Only [f, m, mc] h h' → K (.bool (stepF base n cs F).1.done) h') :
    CallsH Try.prog 16 [.pointer (some ⟨f, 0, none⟩)] h K :=
  step_spec W.tab H W.mem W.hn W.hn2 W.hb k.pos (fun e => (k.going e).2.1) (Nat.lt_of_le_of_lt k.left W.hn2) W.hc d1 d2 d3 W.d4 W.d5
    fun h' fails' a b c d => hK h' fails' a ⟨b, c, W.d4, W.d5, W.hn, W.hn2, W.hb, by rw [stepF_len]; exact W.hc⟩ d
theorem find_tw {key : Int} (W : TW h t m mc base n cs ops fails)
    (hK : ∀ f h', FindIs h' f t (newFi key n) → TW h' t m mc base n cs ops fails → Only [] h h' → h.size ≤ f → K (.pointer (some ⟨f, 0, none⟩)) h') :
    CallsH Try.prog 14 [.pointer (some ⟨t, 0, none⟩), .int .u64 key] h K :=
  find_spec W.tab W.hn W.hn2 fun f h' a b c => hK f h' a (W.only b (by simp) (by simp) (by simp)) b c
theorem at_tw (W : TW h t m mc base n cs ops fails) {i : Nat} (hi : i < n)
    (hK : ∀ h', TW h' t m mc base n cs (up ops) fails → Only [m, mc] h h' → K (.int .u64 (cell base cs i)) h') :
    CallsH Try.prog 19 [.pointer (some ⟨t, 0, none⟩), .int .i64 (i : Int)] h K :=
  at_spec W.tab W.mem W.hb W.hn2 W.hc hi fun h' M O => hK h' (W.next O M) O
theorem len_tw (W : TW h t m mc base n cs ops fails)
    (hK : ∀ h' ops', TW h' t m mc base n cs ops' fails → Only [m, mc] h h' → K (.int .i64 (cnt base cs n : Int)) h') :
    CallsH Try.prog 20 [.pointer (some ⟨t, 0, none⟩)] h K :=
  lenT_spec W.tab W.mem W.hb W.hn2 W.hc W.d4 W.d5 fun h' ops' M O => hK h' ops' (W.next O M) O
theorem has_tw (W : TW h t m mc base n cs ops fails) {key : Int}
    (hT : ∀ (i : Nat) h' ops', key ≠ 0 → i < n → cell base cs i = key → TW h' t m mc base n cs ops' fails → Only [m, mc] h h' → K (.tuple #[.int .i64 (i : Int), .bool true]) h')
    (hF : ∀ h' ops', (key = 0 ∨ ∀ j, j < n → cell base cs j ≠ key) → TW h' t m mc base n cs ops' fails → Only [m, mc] h h' → K (.tuple #[.int .i64 (-1), .bool false]) h') :
    CallsH Try.prog 22 [.pointer (some ⟨t, 0, none⟩), .int .u64 key] h K :=
  has_spec W.tab W.mem W.hb W.hn2 W.hc W.d4 W.d5 (fun i h' ops' a b c _ M O => hT i h' ops' a b c (W.next O M) O) fun h' ops' a M O => hF h' ops' a (W.next O M) O
theorem clear_tw (W : TW h t m mc base n cs ops fails)
    (hK : ∀ h' ops' cs', (∀ j, j < n → cell base cs' j = 0) → (∀ x, x < base ∨ base + n ≤ x → cs'.getD x 0 = cs.getD x 0) → TW h' t m mc base n cs' ops' fails → Only [m, mc] h h' → K (.tuple #[]) h') :
    CallsH Try.prog 23 [.pointer (some ⟨t, 0, none⟩)] h K :=
  clear_spec W.tab W.mem W.hb W.hn2 W.hc W.d4 W.d5 fun h' ops' cs' a b c M O =>
    hK h' ops' cs' b c ⟨W.tab.only O (by simp [W.d4, W.d5]), M, W.d4, W.d5, W.hn, W.hn2, W.hb, by rw [a]; exact W.hc⟩ O
theorem FindIs.lt (H : FindIs h f t F) : f < h.size := At.lt H
theorem TW.lt (W : TW h t m mc base n cs ops fails) : t < h.size ∧ m < h.size ∧ mc < h.size := ⟨At.lt W.tab, W.mem.head.lt, W.mem.body.lt⟩
end

theorem known6 {h : Heap} {K : Value → Heap → Prop} (hK : ∀ h', Only [] h h' → K (.bool true) h') : CallsH Try.prog 11 [] h K := by
  apply F11.spec
  unfold F11.w F11.J0
  refine new_spec fun m mc h1 M1 O1 hm hc => ?_
  rw [show List.replicate (cellsFor 10) (0 : Int) = [0, 0, 0, 0, 0, 0, 0, 0, 0, 0] from rfl] at M1
  rw [ldP_some]
  refine tabnew_spec (base := 2) (n := 4) M1 (by decide) (by decide) (by decide) fun t h2 T2 O2 ht => ⟨_, _, rfl, ?_⟩
  have M2 := M1.only O2 (by simp) (by simp)
  refine tabnew_out (base := 7) (n := 4) M2 (by decide) (by decide) (by decide) (by decide) ⟨_, _, rfl, ?_⟩
  have P2 := O1.nil O2 (by simp)
  have lm := M1.head.lt
  have lc := M1.body.lt
  have s1 := O1.size
  have W2 : TW h2 t m mc 2 4 [0, 0, 0, 0, 0, 0, 0, 0, 0, 0] 0 0 := ⟨T2, M2, by omega, by omega, by decide, by decide, by decide, by decide⟩
  rw [show ((0 : Int) != 0) = false from rfl, bcase_false, Option.isNone_some, bcase_false, show ((61 : Int) != 61) = false from rfl, bcase_false]
  refine find_tw W2 fun a h3 A3 W3 O3 ha => ldP_of rfl (find_tw W3 fun b h4 B4 W4 O4 hb => ldP_of rfl ?_)
  have A4 := A3.only O4 (by simp)
  have P4 := (P2.nil O3 (by simp)).nil O4 (by simp)
  have lt4 := W4.lt
  have lt2 := W2.lt
  have s2 := P2.size
  have s3 := O3.size
  have la := A3.lt
  have da : a ≠ t ∧ a ≠ m ∧ a ≠ mc ∧ b ≠ t ∧ b ≠ m ∧ b ≠ mc ∧ a ≠ b := by omega
  obtain ⟨d1, d2, d3, d4, d5, d6, d7⟩ := da
  have hA : ∀ x ∈ [a, m, mc], h.size ≤ x := by simp; omega
  have hB : ∀ x ∈ [b, m, mc], h.size ≤ x := by simp; omega
  have hM : ∀ x ∈ [m, mc], h.size ≤ x := by simp; omega
  clear lt4 lt2 s2 s3 la A3 W3 W2 T2 M2 M1 lm lc s1
  -- one round: both step
  have round : ∀ (g : Nat) (i : Nat) (cs : List Int) (ops fails : Int) (A B : Fi) (h5 : Heap), i < 40 → A.done = false ∨ B.done = false → Fok 2 4 cs A → Fok 2 4 (stepF 2 4 cs A).2 B → FindIs h5 a t A → FindIs h5 b t B → TW h5 t m mc 2 4 cs ops fails → Only [] h h5 →
      (∀ (h6 : Heap) (ops' fails' : Int), FindIs h6 a t (stepF 2 4 cs A).1 → FindIs h6 b t (stepF 2 4 (stepF 2 4 cs A).2 B).1 → TW h6 t m mc 2 4 (stepF 2 4 (stepF 2 4 cs A).2 B).2 ops' fails' → Only [] h h6 →
        F11.wL8 g (some ⟨t, 0, none⟩) (some ⟨a, 0, none⟩) (some ⟨b, 0, none⟩) ((i + 1 : Nat) : Int) h6 K) →
      F11.wL8 (g + 1) (some ⟨t, 0, none⟩) (some ⟨a, 0, none⟩) (some ⟨b, 0, none⟩) (i : Int) h5 K := by
    intro g i cs ops fails A B h5 hi hd kA kB A5 B5 W5 P5 hnext
    have two : CallsH Try.prog 16 [.pointer (some ⟨a, 0, none⟩)] h5 (fun v7 h8 => ldB (some v7) (fun _ => CallsH Try.prog 16 [(.pointer (some ⟨b, 0, none⟩))] h8 (fun v10 h11 => ldB (some v10) (fun _ => F11.wL8 g (some ⟨t, 0, none⟩) (some ⟨a, 0, none⟩) (some ⟨b, 0, none⟩) (IntKind.wrap .i64 ((i : Int) + (1 : Int))) h11 K)))) := by
      refine step_tw W5 A5 kA d1 d2 d3 fun h6 fails6 A6 W6 O6 => ldB_of rfl (step_tw W6 (B5.only O6 (by simp [d7.symm, d5, d6])) kB d4 d5 d6 fun h7 fails7 B7 W7 O7 => ldB_of rfl ?_)
      rw [show IntKind.wrap .i64 ((i : Int) + 1) = ((i + 1 : Nat) : Int) by rw [wrap_i64 (by omega) (by omega)]; simp]
      exact hnext h7 _ _ (A6.only O7 (by simp [d7, d2, d3])) B7 W7 ((P5.nil O6 hA).nil O7 hB)
    unfold F11.wL8 F11.JL8
    rw [decide_eq_true (by omega), bcase_true]
    refine done_spec A5 (ldB_of rfl ?_)
    cases hA : A.done with
    | false =>
      rw [bcase_false]
      exact two
    | true =>
      rw [bcase_true]
      refine done_spec B5 (ldB_of rfl ?_)
      rw [hd.resolve_left (by simp [hA]), Bool.not_false, bcase_true]
      exact two
  unfold F11.wk8 F11.Jk8
  have T0 : TInv 2 4 [0, 0, 0, 0, 0, 0, 0, 0, 0, 0] := TInv.empty (by decide)
  have k0 : Fok 2 4 [0, 0, 0, 0, 0, 0, 0, 0, 0, 0] (newFi 9 4) := newFi_ok (by decide)
  obtain ⟨t1, kA1, -⟩ := step_ok (by decide) (by decide) T0 k0
  obtain ⟨t2, kB1, -⟩ := step_ok (by decide) (by decide) t1 (k0.grow (by decide) (step_ok (by decide) (by decide) T0 k0).2.2.1)
  have g1 := (step_ok (by decide) (by decide) t1 (k0.grow (by decide) (step_ok (by decide) (by decide) T0 k0).2.2.1)).2.2.1
  have kA1' := kA1.grow (by decide) g1
  obtain ⟨t3, kA2, g2, -⟩ := step_ok (by decide) (by decide) t2 kA1'
  have kB1' := kB1.grow (by decide) g2
  obtain ⟨t4, kB2, g3, -⟩ := step_ok (by decide) (by decide) t3 kB1'
  have kA2' := kA2.grow (by decide) g3
  obtain ⟨t5, kA3, g4, -⟩ := step_ok (by decide) (by decide) t4 kA2'
  have kB2' := kB2.grow (by decide) g4
  refine ⟨4, round 3 0 _ 0 0 _ _ h4 (by decide) (Or.inl rfl) k0 (k0.grow (by decide) (step_ok (by decide) (by decide) T0 k0).2.2.1) A4 B4 W4 P4 fun h5 ops5 fails5 A5 B5 W5 P5 => ?_⟩
  refine round 2 1 _ _ _ _ _ h5 (by decide) (Or.inl rfl) kA1' kB1' A5 B5 W5 P5 fun h6 ops6 fails6 A6 B6 W6 P6 => ?_
  refine round 1 2 _ _ _ _ _ h6 (by decide) (Or.inr rfl) kA2' kB2' A6 B6 W6 P6 fun h7 ops7 fails7 A7 B7 W7 P7 => ?_
  unfold F11.wL8 F11.JL8
  rw [decide_eq_true (by decide), bcase_true]
  have A7 : FindIs h7 a t ⟨9, 1, 4, false, true, 1, 0, true⟩ := A7
  have B7 : FindIs h7 b t ⟨9, 1, 4, false, true, 1, 0, false⟩ := B7
  have W7 : TW h7 t m mc 2 4 [0, 0, 0, 9, 0, 0, 0, 0, 0, 0] ops7 fails7 := W7
  refine done_spec A7 (ldB_of rfl ?_)
  rw [bcase_true]
  refine done_spec B7 (ldB_of rfl ?_)
  rw [Bool.not_true, bcase_false]
  unfold F11.wk12 F11.Jk12
  refine slot_spec A7 ⟨_, _, rfl, slot_spec B7 ⟨_, _, rfl, ?_⟩⟩
  rw [show ((0 : Int) == 0) = true from rfl, bcase_true, bcase_true, show ((1 : Int) == 1) = true from rfl, bcase_true]
  refine at_tw (i := 1) W7 (by decide) fun h8 W8 O8 => ldI_of rfl ?_
  rw [show (cell 2 [0, 0, 0, 9, 0, 0, 0, 0, 0, 0] 1 == 9) = true from rfl, bcase_true]
  refine made_spec (A7.only O8 (by simp [d2, d3])) (ldB_of rfl (made_spec (B7.only O8 (by simp [d5, d6])) (ldB_of rfl ?_)))
  rw [show (!(true == false)) = true from rfl, bcase_true]
  refine len_tw W8 fun h9 ops9 W9 O9 => ldI_of rfl ?_
  rw [show (((cnt 2 [0, 0, 0, 9, 0, 0, 0, 0, 0, 0] 4 : Nat) : Int) == 1) = true from rfl]
  exact hK h9 ((P7.nil O8 hM).nil O9 hM)
end Go.Proofs.Ytbjdjgdbkfjglaa.Ev
