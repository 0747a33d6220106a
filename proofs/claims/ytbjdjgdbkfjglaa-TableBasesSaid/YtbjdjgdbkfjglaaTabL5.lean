/- THE LAW OF TWO TABLES BESIDE ONE ANOTHER (TableBases). Conditions: none. -/
import Derived.Test.YtbjdjgdbkfjglaaTabE
namespace Go.Proofs.Ytbjdjgdbkfjglaa.Ev
open Go

theorem Grow.of_eq {base n : Nat} {cs cs' : List Int} (hl : cs'.length = cs.length) (he : ∀ i, i < n → cell base cs' i = cell base cs i) (ho : ∀ x, x < base ∨ base + n ≤ x → cs'.getD x 0 = cs.getD x 0) : Grow base n cs cs' :=
  ⟨hl, fun i hi _ => he i hi, ho⟩
theorem TInv.ext {base n : Nat} {cs cs' : List Int} (hn : 1 ≤ n) (T : TInv base n cs) (he : ∀ i, i < n → cell base cs' i = cell base cs i) : TInv base n cs' := by
  intro i hi hnz
  rw [he i hi] at hnz ⊢
  obtain ⟨d, a, b, c⟩ := T i hi hnz
  refine ⟨d, a, b, fun j hj => ?_⟩
  rw [he _ (path_lt hn)]
  exact c j hj
theorem Fok.ext {base n : Nat} {cs cs' : List Int} {F : Fi} (hn : 1 ≤ n) (H : Fok base n cs F) (he : ∀ i, i < n → cell base cs' i = cell base cs i) : Fok base n cs' F := by
  refine ⟨H.pos, H.left, fun hd => ?_, fun hd => ?_⟩
  · obtain ⟨a, b, c, d, e⟩ := H.going hd
    exact ⟨a, b, c, fun j hj => by rw [he _ (path_lt hn)]; exact d j hj, e⟩
  · rcases H.ended hd with h | ⟨a, b, i, hi, c, d⟩ | ⟨a, b, c, d, e⟩
    · exact Or.inl h
    · exact Or.inr (Or.inl ⟨a, b, i, hi, c, by rw [he i hi, d]⟩)
    · exact Or.inr (Or.inr ⟨a, b, c, d, fun i hi => by rw [he i hi]; exact e i hi⟩)
/-- what a finder tells is in its bounds -/
theorem Fok.tells {base n : Nat} {cs : List Int} {F : Fi} (H : Fok base n cs F) : (F.e = 60 → cnt base cs n = n) ∧ (F.e = 0 → 0 ≤ F.slot ∧ F.slot < n) := by
  cases hd : F.done with
  | false =>
    obtain ⟨_, _, _, _, _, _, e⟩ := H.going hd
    exact ⟨fun h => by omega, fun h => by omega⟩
  | true =>
    rcases H.ended hd with ⟨_, _, e, _⟩ | ⟨_, e, i, hi, es, _⟩ | ⟨_, e, _, _, a⟩
    · exact ⟨fun h => by omega, fun h => by omega⟩
    · exact ⟨fun h => by omega, fun _ => by omega⟩
    · exact ⟨fun _ => cnt_full n fun i hi => (a i hi).1, fun h => by omega⟩
theorem tellsK {F C : Prop} {e x g y : Int} (h1 : e = 0 → 0 ≤ x ∧ x < 8) (h2 : g = 0 → 0 ≤ y ∧ y < 12) (hC : C) :
    bcase (e == (0 : Int)) (bcase (decide (x < (0 : Int))) F (bcase (decide (x ≥ (8 : Int))) F (bcase (g == (0 : Int)) (bcase (decide (y < (0 : Int))) F (bcase (decide (y ≥ (12 : Int))) F C)) C)))
      (bcase (g == (0 : Int)) (bcase (decide (y < (0 : Int))) F (bcase (decide (y ≥ (12 : Int))) F C)) C) := by
  have hg : bcase (g == (0 : Int)) (bcase (decide (y < (0 : Int))) F (bcase (decide (y ≥ (12 : Int))) F C)) C := by
    refine bcase_of (fun h => ?_) fun _ => hC
    obtain ⟨a, b⟩ := h2 (by simpa using h)
    rw [decide_eq_false (by omega), bcase_false, decide_eq_false (by omega), bcase_false]
    exact hC
  refine bcase_of (fun h => ?_) fun _ => hg
  obtain ⟨a, b⟩ := h1 (by simpa using h)
  rw [decide_eq_false (by omega), bcase_false, decide_eq_false (by omega), bcase_false]
  exact hg

section
variable {h0 : Heap} {s t m mc : Nat} {p q : Option Addr} {cp cq : Nat} {ks qs : List Int}

theorem bases_loop (hI : Ints h0 .u8 p ks) (hJ : Ints h0 .u8 q qs) (s1 : h0.size ≤ m) (s2 : h0.size ≤ mc) :
    ∀ (g i : Nat) (cs : List Int) (ops fails : Int) (h : Heap), 60 - i < g → i ≤ 60 → TInv 0 8 cs → TInv 8 12 cs → TW h s m mc 0 8 cs ops fails → TW h t m mc 8 12 cs ops fails → Only [] h0 h →
      F5.wL11 g p ks.length cp q qs.length cq (some ⟨s, 0, none⟩) (some ⟨t, 0, none⟩) (i : Int) h (Lawful h0) := by
  intro g
  induction g with
  | zero => intro i cs ops fails h hg; omega
  | succ g ih =>
    intro i cs ops fails h hg hi TS TT WS WT O
    have hM : ∀ x ∈ [m, mc], h0.size ≤ x := by simp; omega
    unfold F5.wL11 F5.JL11
    by_cases hlt : i < 60
    · rw [decide_eq_true (by omega), bcase_true]
      have e1 : IntKind.wrap .i64 ((i : Int) + 1) = ((i + 1 : Nat) : Int) := by rw [wrap_i64 (by omega) (by omega)]; simp
      refine find_tw WS fun x h1 X1 WS1 O1 hx => ldP_of rfl ?_
      have WT1 := WT.only O1 (by simp) (by simp) (by simp)
      refine find_tw WT1 fun y h2 Y2 WT2 O2 hy => ldP_of rfl ?_
      have WS2 := WS1.only O2 (by simp) (by simp) (by simp)
      have X2 := X1.only O2 (by simp)
      have P2 := (O.nil O1 (by simp)).nil O2 (by simp)
      have ltS := WS.lt
      have ltT := WT.lt
      have so := O.size
      have so1 := O1.size
      have lx := X1.lt
      -- both finders are there
      have both : ∀ (x y : Nat) (X Y : Fi) (h' : Heap), h.size ≤ x → h.size ≤ y → x ≠ y → Fok 0 8 cs X → Fok 8 12 cs Y → FindIs h' x s X → FindIs h' y t Y → TW h' s m mc 0 8 cs ops fails → TW h' t m mc 8 12 cs ops fails → Only [] h0 h' →
          F5.wk18 (fun x0p x0l x0c x1p x1l x1c x6 x8 x10 h => F5.wL11 g x0p x0l x0c x1p x1l x1c x6 x8 x10 h (Lawful h0)) p ks.length cp q qs.length cq (some ⟨s, 0, none⟩) (some ⟨t, 0, none⟩) (i : Int) (some ⟨x, 0, none⟩) (some ⟨y, 0, none⟩) h' (Lawful h0) := by
        intro x y X Y h' gx gy nxy kX kY HX HY WS' WT' P'
        have d1 : x ≠ s ∧ x ≠ t ∧ x ≠ m ∧ x ≠ mc ∧ y ≠ s ∧ y ≠ t ∧ y ≠ m ∧ y ≠ mc := by omega
        obtain ⟨x1, x2, x3, x4, y1, y2, y3, y4⟩ := d1
        have hX : ∀ b ∈ [x, m, mc], h0.size ≤ b := by simp; omega
        have hY : ∀ b ∈ [y, m, mc], h0.size ≤ b := by simp; omega
        unfold F5.wk18 F5.Jk18 F5.wk19 F5.Jk19
        have tail : ∀ (X Y : Fi) (cs' : List Int) (ops' fails' : Int) (h3 : Heap), Fok 0 8 cs' X → Fok 8 12 cs' Y → TInv 0 8 cs' → TInv 8 12 cs' → FindIs h3 x s X → FindIs h3 y t Y → TW h3 s m mc 0 8 cs' ops' fails' → TW h3 t m mc 8 12 cs' ops' fails' → Only [] h0 h3 →
            F5.wk23 (fun x0p x0l x0c x1p x1l x1c x6 x8 x10 h => F5.wL11 g x0p x0l x0c x1p x1l x1c x6 x8 x10 h (Lawful h0)) p ks.length cp q qs.length cq (some ⟨s, 0, none⟩) (some ⟨t, 0, none⟩) (i : Int) (some ⟨x, 0, none⟩) (some ⟨y, 0, none⟩) h3 (Lawful h0) := by
          intro X Y cs' ops' fails' h3 kX kY TS' TT' HX HY WS3 WT3 P3
          obtain ⟨a1, a2⟩ := kX.tells
          obtain ⟨b1, b2⟩ := kY.tells
          unfold F5.wk23 F5.Jk23
          refine slot_spec HX ⟨_, _, rfl, slot_spec HY ⟨_, _, rfl, ?_⟩⟩
          rw [e1]
          refine bcase_of (fun e => ?_) fun _ => bcase_of (fun e => ?_) fun _ => ?_
          · refine len_tw WS3 fun h4 ops4 WS4 O4 => ldI_of rfl ?_
            have WT4 := WT3.next O4 WS4.mem
            rw [a1 (by simpa using e), decide_eq_false (by omega), bcase_false]
            refine bcase_of (fun e => ?_) fun _ => ?_
            · refine len_tw WT4 fun h5 ops5 WT5 O5 => ldI_of rfl ?_
              have WS5 := WS4.next O5 WT5.mem
              rw [b1 (by simpa using e), decide_eq_false (by omega), bcase_false]
              exact tellsK a2 b2 (ih (i + 1) cs' ops5 fails' h5 (by omega) (by omega) TS' TT' WS5 WT5 ((P3.nil O4 hM).nil O5 hM))
            · exact tellsK a2 b2 (ih (i + 1) cs' ops4 fails' h4 (by omega) (by omega) TS' TT' WS4 WT4 (P3.nil O4 hM))
          · refine len_tw WT3 fun h5 ops5 WT5 O5 => ldI_of rfl ?_
            have WS5 := WS3.next O5 WT5.mem
            rw [b1 (by simpa using e), decide_eq_false (by omega), bcase_false]
            exact tellsK a2 b2 (ih (i + 1) cs' ops5 fails' h5 (by omega) (by omega) TS' TT' WS5 WT5 (P3.nil O5 hM))
          · exact tellsK a2 b2 (ih (i + 1) cs' ops' fails' h3 (by omega) (by omega) TS' TT' WS3 WT3 P3)
        have run : ∀ (g2 j : Nat) (X Y : Fi) (cs' : List Int) (ops' fails' : Int) (h3 : Heap), 80 - j < g2 → j ≤ 80 → Fok 0 8 cs' X → Fok 8 12 cs' Y → TInv 0 8 cs' → TInv 8 12 cs' → FindIs h3 x s X → FindIs h3 y t Y → TW h3 s m mc 0 8 cs' ops' fails' → TW h3 t m mc 8 12 cs' ops' fails' → Only [] h0 h3 →
            F5.wL19 (fun x0p x0l x0c x1p x1l x1c x6 x8 x10 h => F5.wL11 g x0p x0l x0c x1p x1l x1c x6 x8 x10 h (Lawful h0)) g2 p ks.length cp q qs.length cq (some ⟨s, 0, none⟩) (some ⟨t, 0, none⟩) (i : Int) (some ⟨x, 0, none⟩) (some ⟨y, 0, none⟩) (j : Int) h3 (Lawful h0) := by
          intro g2
          induction g2 with
          | zero => intro j X Y cs' ops' fails' h3 hj; omega
          | succ g2 ih2 =>
            intro j X Y cs' ops' fails' h3 hj hj80 kX kY TS' TT' HX HY WS3 WT3 P3
            unfold F5.wL19 F5.JL19
            by_cases hj8 : j < 80
            · rw [decide_eq_true (by omega), bcase_true]
              have two : CallsH Try.prog 16 [.pointer (some ⟨x, 0, none⟩)] h3 (fun v7 h8 => ldB (some v7) (fun _ => CallsH Try.prog 16 [(.pointer (some ⟨y, 0, none⟩))] h8 (fun v10 h11 => ldB (some v10) (fun _ =>
                  F5.wL19 (fun x0p x0l x0c x1p x1l x1c x6 x8 x10 h => F5.wL11 g x0p x0l x0c x1p x1l x1c x6 x8 x10 h (Lawful h0)) g2 p ks.length cp q qs.length cq (some ⟨s, 0, none⟩) (some ⟨t, 0, none⟩) (i : Int) (some ⟨x, 0, none⟩) (some ⟨y, 0, none⟩) (IntKind.wrap .i64 ((j : Int) + (1 : Int))) h11 (Lawful h0))))) := by
                refine step_tw WS3 HX kX x1 x3 x4 fun h4 fails4 HX4 WS4 O4 => ldB_of rfl ?_
                obtain ⟨TS4, kX4, G4, _⟩ := step_ok WS3.hn WS3.hc TS' kX
                have c4 : ∀ i, i < 12 → cell 8 (stepF 0 8 cs' X).2 i = cell 8 cs' i := fun i hi => G4.2.2 (8 + i) (by omega)
                have TT4 := TT'.ext (by omega) c4
                have kY4 := kY.ext (by omega) c4
                have WT4 : TW h4 t m mc 8 12 (stepF 0 8 cs' X).2 _ fails4 := ⟨WT3.tab.only O4 (by simp [x2.symm, WT.d4, WT.d5]), WS4.mem, WT.d4, WT.d5, WT.hn, WT.hn2, WT.hb, by rw [stepF_len]; exact WT3.hc⟩
                refine step_tw WT4 (HY.only O4 (by simp [nxy.symm, y3, y4])) kY4 y2 y3 y4 fun h5 fails5 HY5 WT5 O5 => ldB_of rfl ?_
                obtain ⟨TT5, kY5, G5, _⟩ := step_ok WT4.hn WT4.hc TT4 kY4
                have c5 : ∀ i, i < 8 → cell 0 (stepF 8 12 (stepF 0 8 cs' X).2 Y).2 i = cell 0 (stepF 0 8 cs' X).2 i := fun i hi => G5.2.2 (0 + i) (by omega)
                have WS5 : TW h5 s m mc 0 8 (stepF 8 12 (stepF 0 8 cs' X).2 Y).2 _ fails5 := ⟨WS4.tab.only O5 (by simp [y1.symm, WS.d4, WS.d5]), WT5.mem, WS.d4, WS.d5, WS.hn, WS.hn2, WS.hb, by rw [stepF_len]; exact WS4.hc⟩
                rw [show IntKind.wrap .i64 ((j : Int) + 1) = ((j + 1 : Nat) : Int) by rw [wrap_i64 (by omega) (by omega)]; simp]
                exact ih2 (j + 1) _ _ _ _ _ h5 (by omega) (by omega) (kX4.ext (by omega) c5) kY5 (TS4.ext (by omega) c5) TT5 (HX4.only O5 (by simp [nxy, x3, x4])) HY5 WS5 WT5 ((P3.nil O4 hX).nil O5 hY)
              refine done_spec HX (ldB_of rfl (bcase_of (fun _ => done_spec HY (ldB_of rfl (bcase_of (fun _ => two) fun _ => ?_))) fun _ => two))
              exact tail X Y cs' ops' fails' h3 kX kY TS' TT' HX HY WS3 WT3 P3
            · rw [decide_eq_false (by omega), bcase_false]
              exact tail X Y cs' ops' fails' h3 kX kY TS' TT' HX HY WS3 WT3 P3
        exact ⟨81, run 81 0 X Y cs ops fails h' (by omega) (by omega) kX kY TS TT HX HY WS' WT' P'⟩
      have second : ∀ (x : Nat) (X : Fi) (h' : Heap), h.size ≤ x → x < y ∨ y < x → x < h'.size → y < h'.size → Fok 0 8 cs X → FindIs h' x s X → FindIs h' y t (newFi 1 12) → TW h' s m mc 0 8 cs ops fails → TW h' t m mc 8 12 cs ops fails → Only [] h0 h' →
          F5.wk16 (fun x0p x0l x0c x1p x1l x1c x6 x8 x10 h => F5.wL11 g x0p x0l x0c x1p x1l x1c x6 x8 x10 h (Lawful h0)) p ks.length cp q qs.length cq (some ⟨s, 0, none⟩) (some ⟨t, 0, none⟩) (i : Int) (some ⟨x, 0, none⟩) (some ⟨y, 0, none⟩) h' (Lawful h0) := by
        intro x X h' gx nxy lx' ly' kX HX HY WS' WT' P'
        unfold F5.wk16 F5.Jk16
        refine bcase_of (fun e => ?_) fun _ => both x y X (newFi 1 12) h' gx (by omega) (by omega) kX (newFi_ok (by decide)) HX HY WS' WT' P'
        have hiq : i < qs.length := by
          have := of_decide_eq_true e
          omega
        obtain ⟨a, rfl, ha⟩ := hJ.only P' (by simp) i hiq
        refine ⟨by omega, by omega, ?_⟩
        simp only [Int.toNat_natCast, Nat.mul_one, ha, ldI_some]
        refine F15.spec _ _ _ _ ⟨by decide, ldI_of rfl (find_tw WT' fun y' h3 Y3 WT3 O3 hy' => ldP_of rfl ?_)⟩
        have := P'.size
        exact both x y' X (newFi _ 12) h3 gx (by omega) (by omega) kX (newFi_ok (by decide)) (HX.only O3 (by simp)) Y3 (WS'.only O3 (by simp) (by simp) (by simp)) WT3 (P'.nil O3 (by simp))
      have ly := Y2.lt
      refine bcase_of (fun e => ?_) fun _ => second x _ h2 hx (by omega) (by omega) ly (newFi_ok (by decide)) X2 Y2 WS2 WT2 P2
      have hik : i < ks.length := by
        have := of_decide_eq_true e
        omega
      obtain ⟨a, rfl, ha⟩ := hI.only P2 (by simp) i hik
      refine ⟨by omega, by omega, ?_⟩
      simp only [Int.toNat_natCast, Nat.mul_one, ha, ldI_some]
      refine F15.spec _ _ _ _ ⟨by decide, ldI_of rfl (find_tw WS2 fun x' h3 X3 WS3 O3 hx' => ldP_of rfl ?_)⟩
      have l3 := X3.lt
      have := O3.size
      exact second x' _ h3 (by omega) (by omega) l3 (by omega) (newFi_ok (by decide)) X3 (Y2.only O3 (by simp)) WS3 (WT2.only O3 (by simp) (by simp) (by simp)) (P2.nil O3 (by simp))
    · rw [decide_eq_false (by omega), bcase_false]
      unfold F5.wk27 F5.Jk27
      refine len_tw WS fun h1 ops1 WS1 O1 => ldI_of rfl ?_
      have WT1 := WT.next O1 WS1.mem
      refine clear_tw WT1 fun h2 ops2 cs2 z2 c2 WT2 O2 => ⟨rfl, len_tw WT2 fun h3 ops3 WT3 O3 => ldI_of rfl ?_⟩
      rw [cnt_zero 12 z2, show (((0 : Nat) : Int) == 0) = true from rfl, bcase_true]
      have WS3 : TW h3 s m mc 0 8 cs2 ops3 fails := ⟨(WS1.tab.only O2 (by simp [WS.d4, WS.d5])).only O3 (by simp [WS.d4, WS.d5]), WT3.mem, WS.d4, WS.d5, WS.hn, WS.hn2, WS.hb, by have := WT2.hc; omega⟩
      refine len_tw WS3 fun h4 ops4 WS4 O4 => ldI_of rfl ?_
      rw [cnt_ext (cs := cs) (cs' := cs2) 8 fun i hi => c2 (0 + i) (by omega), BEq.rfl]
      exact ⟨rfl, (((O.nil O1 hM).nil O2 hM).nil O3 hM).nil O4 hM⟩
end

theorem bases_law (h : Heap) (p : Option Addr) (c : Nat) (ks : List Int) (hI : Ints h .u8 p ks) (_ : ∀ z ∈ ks, IntKind.min .u8 ≤ z ∧ z ≤ IntKind.max .u8) (_ : (ks.length : Int) ≤ maxLen)
    (q : Option Addr) (d : Nat) (qs : List Int) (hJ : Ints h .u8 q qs) (_ : ∀ z ∈ qs, IntKind.min .u8 ≤ z ∧ z ≤ IntKind.max .u8) (_ : (qs.length : Int) ≤ maxLen) :
    CallsH Try.prog 5 [.slice p ks.length c, .slice q qs.length d] h (Lawful h) := by
  apply F5.spec
  unfold F5.w F5.J0
  refine known6 fun h1 O1 => ldB_of rfl ?_
  rw [Bool.not_true, bcase_false]
  refine bcase_of (fun _ => ⟨rfl, O1⟩) fun hl => bcase_of (fun _ => ⟨rfl, O1⟩) fun hl2 => ?_
  simp at hl hl2
  refine new_spec fun m mc h2 M2 O2 hm hc => ldP_of rfl ?_
  rw [show List.replicate (cellsFor 20) (0 : Int) = List.replicate 20 0 from rfl] at M2
  refine tabnew_spec (base := 0) (n := 8) M2 (by omega) (by decide) (by decide) fun s h3 S3 O3 hs => ⟨_, _, rfl, ?_⟩
  have M3 := M2.only O3 (by simp) (by simp)
  refine tabnew_spec (base := 8) (n := 12) M3 (by omega) (by decide) (by decide) fun t h4 T4 O4 ht => ⟨_, _, rfl, ?_⟩
  rw [show ((0 : Int) != 0) = false from rfl, bcase_false, bcase_false]
  have lm := M2.head.lt
  have lc := M2.body.lt
  have l3 := At.lt S3
  have := O1.size
  have := O2.size
  have := O3.size
  have M4 := M3.only O4 (by simp) (by simp)
  have WS : TW h4 s m mc 0 8 (List.replicate 20 0) 0 0 := ⟨S3.only O4 (by simp), M4, by omega, by omega, by omega, by omega, by omega, by decide⟩
  have WT : TW h4 t m mc 8 12 (List.replicate 20 0) 0 0 := ⟨T4, M4, by omega, by omega, by omega, by omega, by omega, by decide⟩
  unfold F5.wk11 F5.Jk11
  exact ⟨61, bases_loop hI hJ (by omega) (by omega) 61 0 _ 0 0 h4 (by omega) (by omega) (TInv.empty (by decide)) (TInv.empty (by decide)) WS WT (((O1.nil O2 (by simp)).nil O3 (by simp)).nil O4 (by simp))⟩
end Go.Proofs.Ytbjdjgdbkfjglaa.Ev
