/- RefsStacks, seen from the heap. Conditions: the arguments are in their bounds. -/
import Derived.Test.YtipckkeaoncjiaaRefL
namespace Go.Proofs.Ytipckkeaoncjiaa.Ev
open Go

theorem Ints.ld {h : Heap} {k : IntKind} {p : Option Addr} {xs : List Int} (H : Ints h k p xs) {x : Int} {j : Nat} (hx : x = j) (hj : j < xs.length) {Q : Int → Prop} (hQ : Q (xs.getD j 0)) :
    ptrK p fun a => (0 ≤ x ∧ x < (xs.length : Int) ∧ ldI k (Ev.rd h (Addr.add a (Int.toNat x * 1))) Q) := by
  subst hx
  obtain ⟨a, hp, hr⟩ := H j hj
  rw [hp, ptrK_some]
  refine ⟨by omega, by omega, ?_⟩
  rw [show Int.toNat (j : Int) * 1 = j by omega, hr, ldI_some]
  exact hQ
theorem wrap_u32 {x : Int} (h0 : 0 ≤ x) (h1 : x < 4294967296) : IntKind.wrap .u32 x = x := by
  simp [IntKind.wrap, IntKind.bits, IntKind.signed]; omega
def slot8 (zs : List Int) (n j : Nat) : Nat := (zs.getD j 0).toNat % n
def stk8 (zs : List Int) (n i k : Nat) : List Int := ((List.range i).filter fun j => decide (slot8 zs n j = k)).map fun j : Nat => (j : Int) + 2
theorem stk8_succ (zs : List Int) (n i k : Nat) : stk8 zs n (i + 1) k = if slot8 zs n i = k then stk8 zs n i k ++ [(i : Int) + 2] else stk8 zs n i k := by
  unfold stk8
  rw [List.range_succ, List.filter_append, List.map_append]
  by_cases h : slot8 zs n i = k
  · rw [if_pos h, List.filter_cons_of_pos (by simpa using h)]
    rfl
  · rw [if_neg h, List.filter_cons_of_neg (by simpa using h)]
    simp
section
variable {h0 : Heap} {lo r M S n cc : Nat} {pp : Option Addr} {zs : List Int}
theorem slot_eq (hg : ∀ z ∈ zs, 0 ≤ z ∧ z ≤ 255) {i : Nat} (hi : i < zs.length) : Int.tmod (IntKind.wrap .i64 (zs.getD i 0)) n = (slot8 zs n i : Int) := by
  have hz := hg (zs.getD i 0) (by simp [List.getD, hi])
  unfold slot8
  rw [wrap_i64 (by omega) (by omega), Int.tmod_eq_emod_of_nonneg hz.1]
  obtain ⟨z, ez⟩ : ∃ z : Nat, zs.getD i 0 = z := ⟨_, (Int.toNat_of_nonneg hz.1).symm⟩
  rw [ez, Int.toNat_natCast]
  rfl
theorem slot_lt (hn : 1 ≤ n) (i : Nat) : slot8 zs n i < n := Nat.mod_lt _ (by omega)
theorem end25 (hlo : h0.size ≤ lo) (hn4 : n ≤ 4) {N : Nat} {h : Heap} {p : Nat → Option Addr} {c : Nat → Nat} {L : Nat → List Int} (H : Rf lo h r M S n N (fun _ => 0) p c L) (hL : ∀ k, k < n → L k = []) (hN : N ≤ 1000) (O : Only [] h0 h) :
    F8.wk25 n (some ⟨r, 0, none⟩) h (Lawful h0) := by
  have hLB : LB = 140737488355328 := rfl
  unfold F8.wk25 F8.Jk25
  refine roots32 H (by omega) hn4 fun h1 p1 c1 R hR hm Ow O1 => ?_
  have e : R = [] := sorted_ext hR (by simp) fun x => by
    rw [hm x]
    simp only [ne_eq, not_true_eq_false, false_or, List.not_mem_nil, iff_false, not_and, not_exists]
    intro _ k hk hx
    rw [hL k hk] at hx
    cases hx
  subst e
  rw [ldS_some, show ((([] : List Int).length : Int) == 0) = true by decide, bcase_true]
  have H1 := H.new O1
  have OO := O.trans O1 (by simp)
  refine push29 H1 (by omega) (by have := H1.lt; have := H1.ge; omega) (fun _ => ?_) fun k ek hk => by omega
  rw [ldB_some, show (!false) = true from rfl, bcase_true]
  refine push29 H1 (by omega) (by have := H1.lt; have := H1.ge; omega) (fun _ => ?_) fun k ek hk => by omega
  rw [ldB_some]
  exact ⟨rfl, OO⟩
theorem inner8 (hlo : h0.size ≤ lo) (hn : 1 ≤ n) (hn4 : n ≤ 4) (hI : Ints h0 .u8 pp zs) (hg : ∀ z ∈ zs, 0 ≤ z ∧ z ≤ 255) (hz : zs.length ≤ 80) {w N : Nat} (hw : w < n) (hN : N ≤ 1000) {bk : (Option Addr) → Nat → Nat → Int → (Option Addr) → Int → Heap → Prop}
    (hb : ∀ h (p : Nat → Option Addr) (c : Nat → Nat) (L : Nat → List Int), Rf lo h r M S n N (fun _ => 0) p c L → (∀ k, k < n → L k = if k < w + 1 then [] else stk8 zs n zs.length k) → Only [] h0 h → bk pp zs.length cc n (some ⟨r, 0, none⟩) ((w + 1 : Nat) : Int) h) :
    ∀ (t : Nat) (h : Heap) (p : Nat → Option Addr) (c : Nat → Nat) (L : Nat → List Int), t ≤ zs.length → Rf lo h r M S n N (fun _ => 0) p c L → (∀ k, k < n → L k = if k < w then [] else if k = w then stk8 zs n t w else stk8 zs n zs.length k) → Only [] h0 h →
      F8.wL16 bk (t + 1) pp zs.length cc n (some ⟨r, 0, none⟩) w ((t : Int) - 1) h (Lawful h0) := by
  have hLB : LB = 140737488355328 := rfl
  intro t
  induction t with
  | zero =>
    intro h p c L ht H hL O
    unfold F8.wL16 F8.JL16
    rw [show decide ((((0 : Nat) : Int) - 1) ≥ 0) = false by decide, bcase_false]
    unfold F8.wk22 F8.Jk22
    have e := hL w hw
    rw [if_neg (by omega), if_pos rfl, show stk8 zs n 0 w = [] from rfl] at e
    refine pop30 H (by omega) (fun _ => ?_) fun k l x ek hk el => ?_
    · refine ⟨_, _, rfl, ?_⟩
      rw [bcase_false]
      refine depth31 H ?_
      rw [if_pos (by omega), Int.toNat_natCast, e, ldI_some, show (((([] : List Int).length : Nat) : Int) != 0) = false by decide, bcase_false, show IntKind.wrap .i64 ((w : Int) + 1) = ((w + 1 : Nat) : Int) by rw [wrapN (by omega) (by omega)]; omega]
      refine hb h p c L H (fun k hk => ?_) O
      rw [hL k hk]
      by_cases h1 : k < w
      · rw [if_pos h1, if_pos (by omega)]
      · rw [if_neg h1]
        by_cases h2 : k = w
        · rw [if_pos h2, if_pos (by omega)]
          rfl
        · rw [if_neg h2, if_neg (by omega)]
    · have : k = w := by omega
      subst this
      rw [e] at el
      simp at el
  | succ t ih =>
    intro h p c L ht H hL O
    unfold F8.wL16 F8.JL16
    rw [show (((t + 1 : Nat) : Int) - 1) = (t : Int) by omega, show decide ((t : Int) ≥ 0) = true by simp, bcase_true, show IntKind.wrap .i64 ((t : Int) - 1) = ((t : Int) - 1) by rw [wrapN (by omega) (by omega)]]
    refine (hI.only O (by simp)).ld rfl (by omega) ⟨by omega, ?_⟩
    rw [slot_eq hg (by omega)]
    refine bcase_of (fun hc => ?_) fun hc => ?_
    · have hc' : slot8 zs n t ≠ w := by simp at hc; omega
      refine ih h p c L (by omega) H (fun k hk => ?_) O
      rw [hL k hk, stk8_succ, if_neg hc']
    · have hc' : slot8 zs n t = w := by simp at hc; omega
      have e := hL w hw
      rw [if_neg (by omega), if_pos rfl, stk8_succ, if_pos hc'] at e
      refine pop30 H (by omega) (fun hx => ?_) fun k l x ek hk el h1 H1 O1 => ?_
      · rcases hx with h | h
        · omega
        · rw [Int.toNat_natCast, e] at h
          simp at h
      · have : k = w := by omega
        subst this
        rw [e] at el
        obtain ⟨e1, e2⟩ := List.append_inj' el rfl
        have e3 : x = (t : Int) + 2 := by simpa using e2.symm
        subst e3
        refine ⟨_, _, rfl, ?_⟩
        rw [show (!true) = false from rfl, bcase_false, wrap_u32 (x := (t : Int)) (by omega) (by omega), wrap_u32 (by omega) (by omega), show (((t : Int) + 2) != ((t : Int) + 2)) = false by simp, bcase_false]
        refine ih h1 p c _ (by omega) H1 (fun k' hk' => ?_) (rf_S H hlo O O1)
        unfold pup
        by_cases h2 : k' = k
        · rw [if_pos h2, if_neg (by omega), if_pos h2]
          exact e1.symm
        · rw [if_neg h2, hL k' hk', if_neg h2]
          by_cases h1 : k' < k
          · rw [if_pos h1, if_pos h1]
          · rw [if_neg h1, if_neg h1, if_neg h2]
theorem outer8 (hlo : h0.size ≤ lo) (hn : 1 ≤ n) (hn4 : n ≤ 4) (hI : Ints h0 .u8 pp zs) (hg : ∀ z ∈ zs, 0 ≤ z ∧ z ≤ 255) (hz : zs.length ≤ 80) {N : Nat} (hN : N ≤ 1000) :
    ∀ (d w : Nat) (h : Heap) (p : Nat → Option Addr) (c : Nat → Nat) (L : Nat → List Int), w + d = n → Rf lo h r M S n N (fun _ => 0) p c L → (∀ k, k < n → L k = if k < w then [] else stk8 zs n zs.length k) → Only [] h0 h →
      F8.wL13 (d + 1) pp zs.length cc n (some ⟨r, 0, none⟩) w h (Lawful h0) := by
  have hLB : LB = 140737488355328 := rfl
  intro d
  induction d with
  | zero =>
    intro w h p c L hd H hL O
    unfold F8.wL13 F8.JL13
    rw [show decide ((w : Int) < (n : Int)) = false by simp; omega, bcase_false]
    exact end25 hlo hn4 H (fun k hk => by rw [hL k hk, if_pos (by omega)]) hN O
  | succ d ih =>
    intro w h p c L hd H hL O
    unfold F8.wL13 F8.JL13
    rw [show decide ((w : Int) < (n : Int)) = true by simp; omega, bcase_true, show IntKind.wrap .i64 ((zs.length : Int) - 1) = ((zs.length : Int) - 1) by rw [wrapN (by omega) (by omega)]]
    unfold F8.wk16 F8.Jk16
    refine ⟨_, inner8 hlo hn hn4 hI hg hz (by omega) hN (fun h' p' c' L' H' hL' O' => ih (w + 1) h' p' c' L' (by omega) H' hL' O') zs.length h p c L (Nat.le_refl _) H (fun k hk => ?_) O⟩
    rw [hL k hk]
    by_cases h1 : k < w
    · rw [if_pos h1, if_pos h1]
    · rw [if_neg h1, if_neg h1]
      by_cases h2 : k = w
      · rw [if_pos h2, h2]
      · rw [if_neg h2]
theorem push8 (hlo : h0.size ≤ lo) (hn : 1 ≤ n) (hn4 : n ≤ 4) (hI : Ints h0 .u8 pp zs) (hg : ∀ z ∈ zs, 0 ≤ z ∧ z ≤ 255) (hz : zs.length ≤ 80) :
    ∀ (d i N : Nat) (h : Heap) (p : Nat → Option Addr) (c : Nat → Nat) (L : Nat → List Int), i + d = zs.length → N + d ≤ 1000 → Rf lo h r M S n N (fun _ => 0) p c L → (∀ k, k < n → L k = stk8 zs n i k) → Only [] h0 h →
      F8.wL8 (d + 1) pp zs.length cc n (some ⟨r, 0, none⟩) i h (Lawful h0) := by
  have hLB : LB = 140737488355328 := rfl
  intro d
  induction d with
  | zero =>
    intro i N h p c L hd hN H hL O
    unfold F8.wL8 F8.JL8
    rw [show decide ((i : Int) < (zs.length : Int)) = false by simp; omega, bcase_false]
    have hi : i = zs.length := by omega
    subst hi
    unfold F8.wk12 F8.Jk12 F8.wk13 F8.Jk13
    exact ⟨_, outer8 hlo hn hn4 hI hg hz (by omega) n 0 h p c L (by omega) H (fun k hk => by rw [hL k hk, if_neg (by omega)]) O⟩
  | succ d ih =>
    intro i N h p c L hd hN H hL O
    unfold F8.wL8 F8.JL8
    rw [show decide ((i : Int) < (zs.length : Int)) = true by simp; omega, bcase_true, show IntKind.wrap .i64 ((i : Int) + 1) = ((i + 1 : Nat) : Int) by rw [wrapN (by omega) (by omega)]; omega]
    refine (hI.only O (by simp)).ld rfl (by omega) ⟨by omega, ?_⟩
    rw [slot_eq hg (by omega), wrap_u32 (x := (i : Int)) (by omega) (by omega), wrap_u32 (by omega) (by omega)]
    have hs := slot_lt (zs := zs) hn i
    refine push29 H (by omega) (by have := H.lt; have := H.ge; omega) (fun hx => absurd ⟨by omega, by omega⟩ hx) fun k ek hk h1 p' c' H1 O1 hp1 => ?_
    have ek' : k = slot8 zs n i := by omega
    rw [ldB_some, show (!(true == true)) = false from rfl, bcase_false]
    refine ih (i + 1) (N + 1) h1 _ _ _ (by omega) (by omega) H1 (fun k' hk' => ?_) (rf_P H hlo O hk O1)
    rw [stk8_succ]
    unfold pup
    by_cases h2 : k' = k
    · rw [if_pos h2, if_pos (by omega), hL k hk, h2]
    · rw [if_neg h2, if_neg (by omega), hL k' hk']
end
theorem rstacks_law (h : Heap) (v : Int) (hv : IntKind.min .u8 ≤ v ∧ v ≤ IntKind.max .u8) (p : Option Addr) (c : Nat) (zs : List Int) (hI : Ints h .u8 p zs) (hg : ∀ z ∈ zs, IntKind.min .u8 ≤ z ∧ z ≤ IntKind.max .u8) (_ : (zs.length : Int) ≤ maxLen) :
    CallsH Try.prog 8 [.int .u8 v, .slice p zs.length c] h (Lawful h) := by
  rw [show IntKind.min .u8 = 0 by decide, show IntKind.max .u8 = 255 by decide] at hv hg
  refine F8.spec _ _ _ _ h _ ?_
  have hLB : LB = 140737488355328 := rfl
  unfold F8.w F8.J0
  refine known27 fun h1 O1 => ?_
  rw [ldB_some, show (!true) = false from rfl, bcase_false]
  refine bcase_of (fun _ => ⟨rfl, O1⟩) fun hz => ?_
  simp only [decide_eq_false_iff_not] at hz
  refine ⟨by decide, ?_⟩
  obtain ⟨m, rfl⟩ : ∃ m : Nat, v = m := ⟨v.toNat, by omega⟩
  rw [Int.tmod_eq_emod_of_nonneg (by omega), wrapN (x := (m : Int) % 4) (by omega) (by omega), show IntKind.wrap .i64 ((m : Int) % 4 + 1) = ((m % 4 + 1 : Nat) : Int) by rw [wrapN (by omega) (by omega)]; omega]
  refine new28 fun h2 r M S H2 O2 => ?_
  rw [ldP_some]
  have ew : (wkI ((m % 4 + 1 : Nat) : Int)).toNat = m % 4 + 1 := by
    unfold wkI
    have : m % 4 < 4 := Nat.mod_lt _ (by omega)
    rw [if_neg (by omega : ¬ (1 : Int) > ((m % 4 + 1 : Nat) : Int)), if_neg (by omega)]
    exact Int.toNat_natCast _
  rw [ew] at H2
  unfold F8.wk8 F8.Jk8
  have : m % 4 < 4 := Nat.mod_lt _ (by omega)
  exact ⟨_, push8 (lo := h1.size) O1.size (by omega) (by omega) hI hg (by omega) zs.length 0 0 h2 _ _ _ (by omega) (by omega) H2 (fun k hk => rfl) (O1.trans O2 (by simp))⟩
end Go.Proofs.Ytipckkeaoncjiaa.Ev
