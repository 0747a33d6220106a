/- THE PILE of the queue by keys: Len, Less, Swap, Push, Pop, seen from the heap. Conditions: the pile stands (Pile). -/
import Derived.Test.YtkdegjjenbbjfaaRnkP
import Derived.Test.YtkdegjjenbbjfaaRnkF
namespace Go.Proofs.Ytkdegjjenbbjfaa.Ev
open Go

def flat : List It → List Value
  | [] => []
  | x :: L => .int .i64 x.1 :: .int .i64 x.2 :: flat L
theorem flat_len : ∀ (L : List It), (flat L).length = L.length * 2
  | [] => rfl
  | x :: L => by simp [flat, flat_len L]; omega
theorem flat_get0 : ∀ {L : List It} {i : Nat}, i < L.length → (flat L)[i * 2]? = some (.int .i64 (atL L i).1)
  | x :: L, 0, _ => rfl
  | x :: L, i + 1, h => by
    rw [show (i + 1) * 2 = i * 2 + 1 + 1 by omega]
    simp only [flat, List.getElem?_cons_succ]
    rw [flat_get0 (by simpa using h)]
    rfl
theorem flat_get1 : ∀ {L : List It} {i : Nat}, i < L.length → (flat L)[i * 2 + 1]? = some (.int .i64 (atL L i).2)
  | x :: L, 0, _ => rfl
  | x :: L, i + 1, h => by
    rw [show (i + 1) * 2 + 1 = i * 2 + 1 + 1 + 1 by omega]
    simp only [flat, List.getElem?_cons_succ]
    rw [flat_get1 (by simpa using h)]
    rfl
theorem flat_app : ∀ (L M : List It), flat (L ++ M) = flat L ++ flat M
  | [], M => rfl
  | x :: L, M => by simp [flat, flat_app L M]
theorem flat_set0 : ∀ (L : List It) (i : Nat) (v : Int), (flat L).set (i * 2) (.int .i64 v) = flat (L.set i (v, (atL L i).2))
  | [], _, _ => by simp [flat]
  | x :: L, 0, v => rfl
  | x :: L, i + 1, v => by
    rw [show (i + 1) * 2 = i * 2 + 1 + 1 by omega]
    simp only [flat, List.set_cons_succ]
    rw [flat_set0 L i v]
    rfl
theorem flat_set1 : ∀ (L : List It) (i : Nat) (v : Int), (flat L).set (i * 2 + 1) (.int .i64 v) = flat (L.set i ((atL L i).1, v))
  | [], _, _ => by simp [flat]
  | x :: L, 0, v => rfl
  | x :: L, i + 1, v => by
    rw [show (i + 1) * 2 + 1 = i * 2 + 1 + 1 + 1 by omega]
    simp only [flat, List.set_cons_succ]
    rw [flat_set1 L i v]
    rfl
theorem flat_one {L : List It} : ∀ v ∈ flat L, v.oneCell' = true := by
  induction L with
  | nil => simp [flat]
  | cons x L ih =>
    intro v hv
    simp only [flat, List.mem_cons] at hv
    rcases hv with rfl | rfl | hv
    · rfl
    · rfl
    · exact ih v hv

theorem ldM_some' {x : Option Value} {K : Option Nat → Prop} {n : Option Nat} (hx : x = some (.map n)) (hK : K n) : ldM x K := ⟨n, hx, hK⟩
/-- a map of places -/
def MapF (h : Heap) (b : Nat) (f : Int → Option Nat) : Prop := ∃ m, MapM h b .i64 m ∧ ∀ x, m.lookup x = (f x).map fun i => .int .i64 (i : Int)
theorem MapF.only {S : List Nat} {h h' : Heap} {b : Nat} {f : Int → Option Nat} (H : MapF h b f) (O : Only S h h') (hb : b ∉ S) : MapF h' b f := by
  obtain ⟨m, h1, h2⟩ := H
  exact ⟨m, h1.only O hb, h2⟩
def AtOk (L : List It) (f : Int → Option Nat) : Prop := ∀ id i, f id = some i ↔ i < L.length ∧ (atL L i).1 = id
structure Pile (h : Heap) (lo pi mb : Nat) (p : Option Addr) (c : Nat) (L : List It) : Prop where
  at_ : At h pi [.slice p L.length c, .map (some mb)]
  own : Own h lo 2 p L.length c (flat L)
  map : ∃ f, MapF h mb f ∧ AtOk L f
  sep : lo ≤ pi ∧ lo ≤ mb ∧ pi ∉ OwnB p ∧ mb ∉ OwnB p ∧ pi ≠ mb
theorem Pile.only {S : List Nat} {h h' : Heap} {lo pi mb : Nat} {p : Option Addr} {c : Nat} {L : List It} (H : Pile h lo pi mb p c L) (O : Only S h h') (h1 : pi ∉ S) (h2 : mb ∉ S) (h3 : ∀ b ∈ OwnB p, b ∉ S) : Pile h' lo pi mb p c L := by
  obtain ⟨a, b, ⟨f, d, e⟩, g⟩ := H
  exact ⟨a.only O h1, b.only O fun x hx => h3 x (by rw [hx]; simp [OwnB]), ⟨f, d.only O h2, e⟩, g⟩
theorem Pile.lt {h : Heap} {lo pi mb : Nat} {p : Option Addr} {c : Nat} {L : List It} (H : Pile h lo pi mb p c L) : pi < h.size ∧ mb < h.size ∧ ∀ b ∈ OwnB p, lo ≤ b ∧ b < h.size := by
  obtain ⟨a, b, ⟨f, ⟨m, d, -⟩, e⟩, g⟩ := H
  exact ⟨a.lt, d.lt, b.lt⟩

section
variable {h : Heap} {lo pi mb : Nat} {p : Option Addr} {c : Nat} {L : List It} {K : Value → Heap → Prop} {i j : Nat}

theorem len52 (P : Pile h lo pi mb p c L) (hK : K (.int .i64 (L.length : Int)) h) : CallsH Try.prog 52 [.pointer (some ⟨pi, 0, none⟩)] h K := by
  apply F52.spec
  unfold F52.w F52.J0
  rw [add_mk]
  exact ldS_of (by rw [P.at_.rd]; rfl) hK

theorem less87 (P : Pile h lo pi mb p c L) (hi : i < L.length) (hj : j < L.length) (hK : ∀ h', Pile h' lo pi mb p c L → Only [] h h' → K (.bool (bet (atL L i) (atL L j))) h') :
    CallsH Try.prog 87 [.pointer (some ⟨pi, 0, none⟩), .int .i64 (i : Int), .int .i64 (j : Int)] h K := by
  apply F87.spec
  obtain ⟨b, ep, -⟩ := P.own.rd (j := i * 2) (by rw [flat_len]; omega)
  subst ep
  have R : ∀ h', Pile h' lo pi mb (some ⟨b, 0, none⟩) c L → rd h' ⟨pi, 0, none⟩ = some (.slice (some ⟨b, 0, none⟩) L.length c) ∧ rd h' ⟨b, i * 2, none⟩ = some (.int .i64 (atL L i).1) ∧ rd h' ⟨b, i * 2 + 1, none⟩ = some (.int .i64 (atL L i).2) ∧ rd h' ⟨b, j * 2, none⟩ = some (.int .i64 (atL L j).1) ∧ rd h' ⟨b, j * 2 + 1, none⟩ = some (.int .i64 (atL L j).2) := by
    intro h' P'
    have e : ∀ k, k < L.length * 2 → rd h' ⟨b, k, none⟩ = (flat L)[k]? := by
      intro k hk
      obtain ⟨b', e1, e2⟩ := P'.own.rd (j := k) (by rw [flat_len]; omega)
      injection e1 with e1
      injection e1 with e1
      subst e1
      exact e2
    refine ⟨by rw [P'.at_.rd]; rfl, ?_, ?_, ?_, ?_⟩
    · rw [e _ (by omega), flat_get0 hi]
    · rw [e _ (by omega), flat_get1 hi]
    · rw [e _ (by omega), flat_get0 hj]
    · rw [e _ (by omega), flat_get1 hj]
  have i0 : (0 : Int) ≤ (i : Int) := by omega
  have i1 : (i : Int) < (L.length : Int) := by omega
  have j0 : (0 : Int) ≤ (j : Int) := by omega
  have j1 : (j : Int) < (L.length : Int) := by omega
  have new : ∀ {h h1 : Heap} (P : Pile h lo pi mb (some ⟨b, 0, none⟩) c L) (O : Only [] h h1), Pile h1 lo pi mb (some ⟨b, 0, none⟩) c L := fun P O => P.only O (by simp) (by simp) (by simp)
  have st : ∀ {h h1 : Heap} {x : Nat} (P : Pile h lo pi mb (some ⟨b, 0, none⟩) c L) (O : Only [x] h h1), pi ≠ x → mb ≠ x → b ≠ x → Pile h1 lo pi mb (some ⟨b, 0, none⟩) c L := fun P O h1 h2 h3 => P.only O (by simpa using h1) (by simpa using h2) (by simpa [OwnB] using h3)
  have lt := P.lt
  have ltb := (lt.2.2 b (by simp [OwnB])).2
  unfold F87.w F87.J0
  simp only [add_mk, Nat.zero_add, Nat.add_zero, Int.toNat_natCast]
  obtain ⟨r0, r1, r2, r3, r4⟩ := R h P
  simp only [r0, r1, r2, r3, r4, ldS_some, ptrK_some, ldI_some, i0, i1, j0, j1, true_and, add_mk, Nat.zero_add, Nat.add_zero]
  constructor
  · refine newK_at fun h1 A1 O1 z1 => ?_
    have P1 := new P O1
    obtain ⟨r0, r1, r2, r3, r4⟩ := R h1 P1
    simp only [r0, r1, r2, r3, r4, ldS_some, ldI_some, true_and]
    refine newK_at fun h2 A2 O2 z2 => ?_
    have P2 := new P1 O2
    obtain ⟨r0, r1, r2, r3, r4⟩ := R h2 P2
    simp only [r0, r1, r2, r3, r4, ldS_some, ldI_some, true_and]
    refine stK_at (A1.only O2 (by simp)) (by simp) rfl fun h3 A3 O3 z3 => stK_at A3 (by simp) rfl fun h4 A4 O4 z4 => ?_
    have O34 := O3.trans O4 (by simp)
    have P4 := st P2 O34 (by omega) (by omega) (by omega)
    obtain ⟨r0, -, -, r3, r4⟩ := R h4 P4
    simp only [r0, r3, r4, ldS_some, ldI_some, true_and]
    refine stK_at (A2.only O34 (by simp; omega)) (by simp) rfl fun h5 A5 O5 z5 => stK_at A5 (by simp) rfl fun h6 A6 O6 z6 => ?_
    have O56 := O5.trans O6 (by simp)
    have P6 := st P4 O56 (by omega) (by omega) (by omega)
    have A4' := A4.only O56 (by simp; omega)
    have fin := hK h6 P6 ((((O1.trans O2 (by simp)).nil O34 (by simp)).nil O56 (by simp; omega)))
    refine ldI_of (n := (atL L i).2) (by rw [A4'.rd]; rfl) (ldI_of (n := (atL L j).2) (by rw [A6.rd]; rfl) (bcase_of (fun e => ?_) fun e => ldI_of (n := (atL L i).2) (by rw [A4'.rd]; rfl) (ldI_of (n := (atL L j).2) (by rw [A6.rd]; rfl) (bcase_of (fun e2 => ldI_of (n := (atL L i).1) (by rw [A4'.rd]; rfl) (ldI_of (n := (atL L j).1) (by rw [A6.rd]; rfl) ?_)) fun e2 => ?_))))
    · unfold bet at fin
      rw [e, Bool.true_or] at fin
      exact fin
    · unfold bet at fin
      rw [e, Bool.false_or, e2, Bool.true_and] at fin
      exact fin
    · unfold bet at fin
      rw [e, Bool.false_or, e2, Bool.false_and] at fin
      exact fin
  · refine newK_at fun h1 A1 O1 z1 => ?_
    have P1 := new P O1
    obtain ⟨r0, r1, r2, r3, r4⟩ := R h1 P1
    simp only [r0, r1, r2, r3, r4, ldS_some, ldI_some, true_and]
    refine newK_at fun h2 A2 O2 z2 => ?_
    have P2 := new P1 O2
    obtain ⟨r0, r1, r2, r3, r4⟩ := R h2 P2
    simp only [r0, r1, r2, r3, r4, ldS_some, ldI_some, true_and]
    refine stK_at A2 (by simp) rfl fun h3 A3 O3 z3 => stK_at A3 (by simp) rfl fun h4 A4 O4 z4 => ?_
    have O34 := O3.trans O4 (by simp)
    have P4 := st P2 O34 (by omega) (by omega) (by omega)
    obtain ⟨r0, -, -, r3, r4⟩ := R h4 P4
    simp only [r0, r3, r4, ldS_some, ldI_some, true_and]
    refine stK_at ((A1.only O2 (by simp)).only O34 (by simp; omega)) (by simp) rfl fun h5 A5 O5 z5 => stK_at A5 (by simp) rfl fun h6 A6 O6 z6 => ?_
    have O56 := O5.trans O6 (by simp)
    have P6 := st P4 O56 (by omega) (by omega) (by omega)
    have A4' := A4.only O56 (by simp; omega)
    have fin := hK h6 P6 ((((O1.trans O2 (by simp)).nil O34 (by simp; omega)).nil O56 (by simp)))
    refine ldI_of (n := (atL L i).2) (by rw [A4'.rd]; rfl) (ldI_of (n := (atL L j).2) (by rw [A6.rd]; rfl) (bcase_of (fun e => ?_) fun e => ldI_of (n := (atL L i).2) (by rw [A4'.rd]; rfl) (ldI_of (n := (atL L j).2) (by rw [A6.rd]; rfl) (bcase_of (fun e2 => ldI_of (n := (atL L i).1) (by rw [A4'.rd]; rfl) (ldI_of (n := (atL L j).1) (by rw [A6.rd]; rfl) ?_)) fun e2 => ?_))))
    · unfold bet at fin
      rw [e, Bool.true_or] at fin
      exact fin
    · unfold bet at fin
      rw [e, Bool.false_or, e2, Bool.true_and] at fin
      exact fin
    · unfold bet at fin
      rw [e, Bool.false_or, e2, Bool.false_and] at fin
      exact fin
end

theorem AtOk.inj {L : List It} {f : Int → Option Nat} (H : AtOk L f) {a b : Nat} (ha : a < L.length) (hb : b < L.length) (e : (atL L a).1 = (atL L b).1) : a = b := by
  have h1 := (H _ a).2 ⟨ha, rfl⟩
  have h2 := (H _ b).2 ⟨hb, rfl⟩
  rw [e, h2] at h1
  injection h1 with h1
  exact h1.symm
theorem AtOk.swap {L : List It} {f : Int → Option Nat} (H : AtOk L f) {i j : Nat} (hi : i < L.length) (hj : j < L.length) :
    AtOk (swapL L i j) (fun y => if y = (atL (swapL L i j) j).1 then some j else if y = (atL (swapL L i j) i).1 then some i else f y) := by
  intro id k
  have sw := atL_swap (L := L) hi hj
  rw [swapL_len, sw k, sw j, if_pos rfl, sw i]
  dsimp only
  rw [if_pos (rfl : i = i)]
  by_cases h1 : id = (atL L i).1
  · rw [if_pos h1]
    by_cases hk : k = j
    · subst hk
      simp [hj, h1]
    · rw [if_neg hk]
      constructor
      · intro e
        injection e with e
        exact absurd e.symm hk
      · rintro ⟨a, b⟩
        exfalso
        by_cases hki : k = i
        · rw [if_pos hki] at b
          have := H.inj hj hi (b.trans h1)
          omega
        · rw [if_neg hki] at b
          exact hki (H.inj a hi (b.trans h1))
  · rw [if_neg h1]
    by_cases hij : i = j
    · subst hij
      simp only [if_true]
      rw [if_neg h1, H id k]
      by_cases hki : k = i
      · subst hki
        simp
      · simp [hki]
    · rw [if_neg hij]
      by_cases h2 : id = (atL L j).1
      · rw [if_pos h2]
        by_cases hki : k = i
        · subst hki
          simp [hij, hi, h2]
        · constructor
          · intro e
            injection e with e
            exact absurd e.symm hki
          · rintro ⟨a, b⟩
            exfalso
            by_cases hkj : k = j
            · rw [if_pos hkj] at b
              exact h1 b.symm
            · rw [if_neg hkj, if_neg hki] at b
              exact hkj (H.inj a hj (b.trans h2))
      · rw [if_neg h2, H id k]
        by_cases hkj : k = j
        · subst hkj
          rw [if_pos rfl]
          exact ⟨fun ⟨a, b⟩ => absurd b.symm h2, fun ⟨a, b⟩ => absurd b.symm h1⟩
        · rw [if_neg hkj]
          by_cases hki : k = i
          · subst hki
            rw [if_pos rfl]
            exact ⟨fun ⟨a, b⟩ => absurd b.symm h1, fun ⟨a, b⟩ => absurd b.symm h2⟩
          · rw [if_neg hki]
theorem AtOk.push {L : List It} {f : Int → Option Nat} (H : AtOk L f) {x : It} (hx : f x.1 = none) : AtOk (L ++ [x]) (fun y => if y = x.1 then some L.length else f y) := by
  intro id k
  dsimp only
  have e1 : ∀ k, k < L.length → atL (L ++ [x]) k = atL L k := fun k hk => by simp [atL, List.getD, List.getElem?_append_left hk]
  have e2 : atL (L ++ [x]) L.length = x := by simp [atL, List.getD]
  rw [List.length_append, List.length_singleton]
  by_cases h1 : id = x.1
  · rw [if_pos h1]
    constructor
    · intro e
      injection e with e
      subst e
      exact ⟨by omega, by rw [e2, h1]⟩
    · rintro ⟨a, b⟩
      by_cases hk : k < L.length
      · rw [e1 k hk] at b
        have := (H id k).2 ⟨hk, b⟩
        rw [h1, hx] at this
        cases this
      · rw [show k = L.length by omega]
  · rw [if_neg h1, H id k]
    constructor
    · rintro ⟨a, b⟩
      exact ⟨by omega, by rw [e1 k a]; exact b⟩
    · rintro ⟨a, b⟩
      by_cases hk : k < L.length
      · rw [e1 k hk] at b
        exact ⟨hk, b⟩
      · rw [show k = L.length by omega, e2] at b
        exact absurd b.symm h1
theorem AtOk.pop {L : List It} {f : Int → Option Nat} {x : It} (H : AtOk (L ++ [x]) f) : AtOk L (fun y => if y = x.1 then none else f y) := by
  intro id k
  dsimp only
  have e1 : ∀ k, k < L.length → atL (L ++ [x]) k = atL L k := fun k hk => by simp [atL, List.getD, List.getElem?_append_left hk]
  have e2 : atL (L ++ [x]) L.length = x := by simp [atL, List.getD]
  have hl : (L ++ [x]).length = L.length + 1 := by simp
  by_cases h1 : id = x.1
  · rw [if_pos h1]
    constructor
    · intro e
      cases e
    · rintro ⟨a, b⟩
      exfalso
      have := H.inj (a := k) (b := L.length) (by omega) (by omega) (by rw [e1 k a, e2, b, h1])
      omega
  · rw [if_neg h1, H id k, hl]
    constructor
    · rintro ⟨a, b⟩
      by_cases hk : k < L.length
      · rw [e1 k hk] at b
        exact ⟨hk, b⟩
      · rw [show k = L.length by omega, e2] at b
        exact absurd b.symm h1
    · rintro ⟨a, b⟩
      exact ⟨by omega, by rw [e1 k a]; exact b⟩
theorem AtOk.key {L : List It} {f : Int → Option Nat} (H : AtOk L f) {i : Nat} (hi : i < L.length) (v : Int) : AtOk (L.set i ((atL L i).1, v)) f := by
  intro id k
  rw [H id k, List.length_set]
  have e : (atL (L.set i ((atL L i).1, v)) k).1 = (atL L k).1 := by
    unfold atL
    by_cases h : i = k
    · subst h
      simp [hi]
    · simp [List.getD, h]
  rw [e]

theorem put_mapF {h : Heap} {b : Nat} {f : Int → Option Nat} {x : Int} {i : Nat} {K : Heap → Prop} (H : MapF h b f) (hK : ∀ h', MapF h' b (fun y => if y = x then some i else f y) → Only [b] h h' → h'.size = h.size → K h') :
    entK h (some b) .i64 .i64 x (.int .i64 (0 : Int)) (fun v st h1 => ldI .i64 (some v) (fun _ => estK h1 (some b) st (.int .i64 (i : Int)) K)) := by
  obtain ⟨m, h1, h2⟩ := H
  refine ent_map h1 fun v st h3 hv M3 S3 O3 z3 => ?_
  have hint : ∃ n : Int, v = .int .i64 n := by
    rw [hv, h2 x]
    cases f x with
    | none => exact ⟨_, rfl⟩
    | some k => exact ⟨_, rfl⟩
  obtain ⟨n, rfl⟩ := hint
  refine ldI_of rfl (est_map M3 S3 fun h4 M4 O4 z4 => hK h4 ⟨_, M4, fun y => ?_⟩ (O3.trans O4 (by simp)) (z4.trans z3))
  rw [lookup_mset, lookup_mset]
  dsimp only
  by_cases hy : y = x
  · rw [if_pos hy, if_pos hy]
    rfl
  · rw [if_neg hy, if_neg hy, if_neg hy]
    exact h2 y
theorem upd_mapF {h : Heap} {b : Nat} {f : Int → Option Nat} {x : Int} {i : Nat} {K : Heap → Prop} (H : MapF h b f) (hK : ∀ h', MapF h' b (fun y => if y = x then some i else f y) → Only [b] h h' → h'.size = h.size → K h') :
    updK h (some b) .i64 .i64 x (.int .i64 (i : Int)) K := by
  obtain ⟨m, h1, h2⟩ := H
  refine upd_map h1 fun h3 M3 O3 z3 => hK h3 ⟨_, M3, fun y => ?_⟩ O3 z3
  rw [lookup_mset]
  dsimp only
  by_cases hy : y = x
  · rw [if_pos hy, if_pos hy]
    rfl
  · rw [if_neg hy, if_neg hy]
    exact h2 y
theorem del_mapF {h : Heap} {b : Nat} {f : Int → Option Nat} {x : Int} {K : Heap → Prop} (H : MapF h b f) (hK : ∀ h', MapF h' b (fun y => if y = x then none else f y) → Only [b] h h' → h'.size = h.size → K h') :
    delK h (some b) .i64 .i64 x K := by
  obtain ⟨m, h1, h2⟩ := H
  refine del_map h1 fun h3 M3 O3 z3 => hK h3 ⟨_, M3, fun y => ?_⟩ O3 z3
  rw [lookup_mdel]
  dsimp only
  by_cases hy : y = x
  · rw [if_pos hy, if_pos hy]
    rfl
  · rw [if_neg hy, if_neg hy]
    exact h2 y
theorem look_mapF {h : Heap} {b : Nat} {f : Int → Option Nat} {x : Int} {K : Option (Nat × Value) → Prop} (H : MapF h b f) (hN : f x = none → K none) (hS : ∀ i k, f x = some k → K (some (i, .int .i64 (k : Int)))) : lookK h (some b) .i64 .i64 x K := by
  obtain ⟨m, h1, h2⟩ := H
  refine look_map h1 (fun e => hN ?_) fun i v e => ?_
  · rw [h2 x] at e
    cases hf : f x with
    | none => rfl
    | some k => rw [hf] at e; cases e
  · rw [h2 x] at e
    cases hf : f x with
    | none => rw [hf] at e; cases e
    | some k =>
      rw [hf] at e
      injection e with e
      subst e
      exact hS i k hf
/-- an item of the row set -/
theorem set2 {h : Heap} {lo l c b i : Nat} {L : List It} {x : It} {K : Heap → Prop} (H : Own h lo 2 (some ⟨b, 0, none⟩) l c (flat L)) (hi : i < L.length)
    (hK : ∀ h', Own h' lo 2 (some ⟨b, 0, none⟩) l c (flat (L.set i x)) → Only [b] h h' → K h') : stK h ⟨b, i * 2, none⟩ (.int .i64 x.1) (fun h1 => stK h1 ⟨b, i * 2 + 1, none⟩ (.int .i64 x.2) K) := by
  refine H.set (by rw [flat_len]; omega) rfl fun h1 H1 O1 => ?_
  rw [flat_set0] at H1
  refine H1.set (by rw [flat_len, List.length_set]; omega) rfl fun h2 H2 O2 => ?_
  rw [flat_set1] at H2
  have e : (L.set i (x.1, (atL L i).2)).set i ((atL (L.set i (x.1, (atL L i).2)) i).1, x.2) = L.set i x := by
    rw [List.set_set]
    congr 1
    simp [atL, hi]
  rw [e] at H2
  exact hK h2 H2 (O1.trans O2 (by simp))
theorem Own.cut {h : Heap} {lo : Nat} {p : Option Addr} {l c : Nat} {L : List It} {x : It} (H : Own h lo 2 p (l + 1) c (flat (L ++ [x]))) : Own h lo 2 p l c (flat L) := by
  obtain ⟨e, H⟩ := H
  rw [flat_len, List.length_append, List.length_singleton] at e
  refine ⟨by rw [flat_len]; omega, ?_⟩
  rcases H with ⟨-, h0, -⟩ | ⟨b, sp, h1, h2, h3, h4, h5⟩
  · omega
  · refine Or.inr ⟨b, [.int .i64 x.1, .int .i64 x.2] ++ sp, h1, h2, by omega, ?_, ?_⟩
    · rw [List.length_append, h4]
      obtain ⟨r, rfl⟩ : ∃ r, c = l + 1 + r := ⟨c - l - 1, by omega⟩
      rw [show l + 1 + r - (l + 1) = r by omega, show l + 1 + r - l = r + 1 by omega]
      simp
      omega
    · rw [flat_app] at h5
      simpa [flat] using h5

section
variable {h : Heap} {lo pi mb : Nat} {p : Option Addr} {c : Nat} {L : List It} {K : Value → Heap → Prop} {i j : Nat}

theorem swap90 (P : Pile h lo pi mb p c L) (hi : i < L.length) (hj : j < L.length) (hK : ∀ h', Pile h' lo pi mb p c (swapL L i j) → Only (mb :: OwnB p) h h' → K (.tuple #[]) h') :
    CallsH Try.prog 90 [.pointer (some ⟨pi, 0, none⟩), .int .i64 (i : Int), .int .i64 (j : Int)] h K := by
  apply F90.spec
  obtain ⟨b, ep, -⟩ := P.own.rd (j := i * 2) (by rw [flat_len]; omega)
  subst ep
  obtain ⟨s1, s2, s3, s4, s5⟩ := P.sep
  simp only [OwnB, List.mem_singleton] at s3 s4
  have rIt : ∀ (h' : Heap) (M : List It) (k : Nat), Own h' lo 2 (some ⟨b, 0, none⟩) L.length c (flat M) → k < M.length → rd h' ⟨b, k * 2, none⟩ = some (.int .i64 (atL M k).1) ∧ rd h' ⟨b, k * 2 + 1, none⟩ = some (.int .i64 (atL M k).2) := by
    intro h' M k P' hk
    have e : ∀ k, k < M.length * 2 → rd h' ⟨b, k, none⟩ = (flat M)[k]? := by
      intro k hk
      obtain ⟨b', e1, e2⟩ := P'.rd (j := k) (by rw [flat_len]; omega)
      injection e1 with e1
      injection e1 with e1
      subst e1
      exact e2
    exact ⟨by rw [e _ (by omega), flat_get0 hk], by rw [e _ (by omega), flat_get1 hk]⟩
  have i0 : (0 : Int) ≤ (i : Int) := by omega
  have i1 : (i : Int) < (L.length : Int) := by omega
  have j0 : (0 : Int) ≤ (j : Int) := by omega
  have j1 : (j : Int) < (L.length : Int) := by omega
  have r0 : rd h ⟨pi, 0, none⟩ = some (.slice (some ⟨b, 0, none⟩) L.length c) := by rw [P.at_.rd]; rfl
  obtain ⟨r1, r2⟩ := rIt h L i P.own hi
  obtain ⟨r3, r4⟩ := rIt h L j P.own hj
  unfold F90.w F90.J0
  simp only [add_mk, Nat.zero_add, Nat.add_zero, Int.toNat_natCast]
  simp only [r0, r1, r2, r3, r4, ldS_some, ptrK_some, ldI_some, i0, i1, j0, j1, true_and, add_mk, Nat.zero_add, Nat.add_zero]
  refine set2 (x := atL L j) P.own hi fun h1 H1 O1 => set2 (x := atL L i) H1 (by rw [List.length_set]; exact hj) fun h2 H2 O2 => ?_
  have H2 : Own h2 lo 2 (some ⟨b, 0, none⟩) L.length c (flat (swapL L i j)) := H2
  have O12 := O1.trans O2 (by simp)
  have A2 := P.at_.only O12 (by simpa using s3)
  obtain ⟨f, hf, hok⟩ := P.map
  have f2 := hf.only O12 (by simpa using s4)
  have q0 : rd h2 ⟨pi, 0, none⟩ = some (.slice (some ⟨b, 0, none⟩) L.length c) := by rw [A2.rd]; rfl
  have q1 : rd h2 ⟨pi, 1, none⟩ = some (.map (some mb)) := by rw [A2.rd]; rfl
  obtain ⟨q2, -⟩ := rIt h2 _ i H2 (by rw [swapL_len]; exact hi)
  obtain ⟨q3, -⟩ := rIt h2 _ j H2 (by rw [swapL_len]; exact hj)
  simp only [q0, q1, q2, q3, ldS_some, ldM_some, ptrK_some, ldI_some, i1, j1, true_and, add_mk, Nat.zero_add, Nat.add_zero]
  refine put_mapF f2 fun h3 M3 O3 z3 => put_mapF M3 fun h4 M4 O4 z4 => ?_
  have O34 := O3.trans O4 (by simp)
  refine hK h4 ⟨?_, ?_, ⟨_, M4, hok.swap hi hj⟩, P.sep⟩ ?_
  · rw [swapL_len]
    exact A2.only O34 (by simpa using s5)
  · rw [swapL_len]
    exact H2.only O34 fun x hx => by
      injection hx with hx
      injection hx with hx
      subst hx
      simpa using Ne.symm s4
  · exact (O12.mono (T := mb :: OwnB (some ⟨b, 0, none⟩)) (by simp [OwnB])).trans O34 (by simp)

theorem push89 {x : It} (P : Pile h lo pi mb p c L) (hx : ∀ k, k < L.length → (atL L k).1 ≠ x.1) (hl : L.length < 100000) (hlo : lo ≤ h.size)
    (hK : ∀ h' p' c', Pile h' lo pi mb p' c' (L ++ [x]) → Only (pi :: mb :: OwnB p) h h' → (∀ b ∈ OwnB p', b ∈ OwnB p ∨ h.size ≤ b) → K (.tuple #[]) h') :
    CallsH Try.prog 89 [.pointer (some ⟨pi, 0, none⟩), .iface 57 (.agg #[.int .i64 x.1, .int .i64 x.2])] h K := by
  apply F89.spec
  unfold F89.w F89.J0
  simp only [add_mk, Nat.zero_add, Nat.add_zero]
  obtain ⟨s1, s2, s3, s4, s5⟩ := P.sep
  obtain ⟨lt1, lt2, lt3⟩ := P.lt
  refine newK_at fun h1 A1 O1 z1 => stK_at A1 (by simp) rfl fun h2 A2 O2 z2 => stK_at A2 (by simp) rfl fun h3 A3 O3 z3 => ?_
  have A3 : At h3 h.size [.int .i64 x.1, .int .i64 x.2] := A3
  have O13 : Only [] h h3 := O1.nil (O2.trans O3 (by simp)) (by simp)
  have P3 := P.only O13 (by simp) (by simp) (by simp)
  obtain ⟨f, hf, hok⟩ := P3.map
  have hfx : f x.1 = none := by
    cases hh : f x.1 with
    | none => rfl
    | some k =>
      obtain ⟨a, b⟩ := (hok x.1 k).1 hh
      exact absurd b (hx k a)
  refine ldM_some' (by rw [P3.at_.rd]; rfl) (ldI_of (n := x.1) (by rw [A3.rd]; rfl) (ldS_of (by rw [P3.at_.rd]; rfl) (upd_mapF hf fun h4 M4 O4 z4 => ?_)))
  have P4at := P3.at_.only O4 (by simpa using s5)
  have A4 := A3.only O4 (by simp; omega)
  have own4 := P3.own.only O4 fun b hb => by
    have : mb ≠ b := fun e => s4 (by rw [hb, ← e]; simp [OwnB])
    simpa using Ne.symm this
  refine ldS_of (by rw [P4at.rd]; rfl) (ldI_of (n := x.1) (by rw [A4.rd]; rfl) (ldI_of (n := x.2) (by rw [A4.rd]; rfl) (newK_at fun h5 A5 O5 z5 => ?_)))
  have P5at := P4at.only O5 (by simp)
  refine ⟨by trivial, by trivial, by trivial, by trivial, ldS_of (by rw [P5at.rd]; rfl) ⟨by trivial, ?_⟩⟩
  have own5 := own4.only O5 (by simp)
  have sz3 := O13.size
  refine own_app own5 A5 rfl rfl (by omega) (by simp [Value.oneCell']) (by omega) fun p' c' h6 own6 O6 hp' => ⟨by trivial, ?_⟩
  have P6at := P5at.only O6 s3
  refine stK_at P6at (by simp) rfl fun h7 A7 O7 z7 => ?_
  have hp2 : ∀ b ∈ OwnB p', b ∈ OwnB p ∨ h.size ≤ b := fun b hb => by
    rcases hp' b hb with h | h
    · exact Or.inl h
    · exact Or.inr (by omega)
  have hpi : pi ∉ OwnB p' := fun hb => by
    rcases hp2 _ hb with h | h
    · exact s3 h
    · omega
  have hmb : mb ∉ OwnB p' := fun hb => by
    rcases hp2 _ hb with h | h
    · exact s4 h
    · omega
  refine hK h7 p' c' ⟨?_, ?_, ⟨_, ((M4.only O5 (by simp)).only O6 s4).only O7 (by simpa using Ne.symm s5), hok.push hfx⟩, s1, s2, hpi, hmb, s5⟩ ?_ hp2
  · rw [List.length_append]
    exact A7
  · rw [List.length_append, flat_app]
    exact own6.only O7 fun b hb => by
      have : pi ≠ b := fun e => hpi (by rw [hb, ← e]; simp [OwnB])
      simpa using Ne.symm this
  · have g1 : Only (pi :: mb :: OwnB p) h h4 := (O13.mono (T := pi :: mb :: OwnB p) (by simp)).trans O4 (by simp)
    exact ((g1.trans O5 (by simp)).trans O6 (fun b hb _ => by simp [hb])).trans O7 (by simp)
theorem pop88 {x : It} (P : Pile h lo pi mb p c (L ++ [x])) (hl : L.length < 100000)
    (hK : ∀ h', Pile h' lo pi mb p c L → Only [pi, mb] h h' → K (.iface 57 (.agg #[.int .i64 x.1, .int .i64 x.2])) h') :
    CallsH Try.prog 88 [.pointer (some ⟨pi, 0, none⟩)] h K := by
  apply F88.spec
  unfold F88.w F88.J0
  simp only [add_mk, Nat.zero_add, Nat.add_zero]
  obtain ⟨s1, s2, s3, s4, s5⟩ := P.sep
  obtain ⟨lt1, lt2, lt3⟩ := P.lt
  have hln : (L ++ [x]).length = L.length + 1 := by simp
  obtain ⟨b, ep, -⟩ := P.own.rd (j := 0) (by rw [flat_len]; omega)
  subst ep
  have e : ∀ k, k < (L.length + 1) * 2 → rd h ⟨b, k, none⟩ = (flat (L ++ [x]))[k]? := by
    intro k hk
    obtain ⟨b', e1, e2⟩ := P.own.rd (j := k) (by rw [flat_len]; omega)
    injection e1 with e1
    injection e1 with e1
    subst e1
    exact e2
  have ex : atL (L ++ [x]) L.length = x := by simp [atL, List.getD]
  refine ldS_of (by rw [P.at_.rd]; rfl) (ldS_of (by rw [P.at_.rd]; rfl) ?_)
  rw [show IntKind.wrap .i64 (((L ++ [x]).length : Int) - (1 : Int)) = (L.length : Int) by rw [wrap_i64 (by omega) (by omega)]; omega]
  simp only [ptrK_some, add_mk, Nat.zero_add, Nat.add_zero, Int.toNat_natCast]
  refine ⟨by omega, by omega, ldI_of (n := x.1) (by rw [e _ (by omega), flat_get0 (by omega), ex]) (ldI_of (n := x.2) (by rw [e _ (by omega), flat_get1 (by omega), ex]) ?_)⟩
  refine newK_at fun h1 A1 O1 z1 => stK_at A1 (by simp) rfl fun h2 A2 O2 z2 => stK_at A2 (by simp) rfl fun h3 A3 O3 z3 => ?_
  have A3 : At h3 h.size [.int .i64 x.1, .int .i64 x.2] := A3
  have O13 : Only [] h h3 := O1.nil (O2.trans O3 (by simp)) (by simp)
  have P3 := P.only O13 (by simp) (by simp) (by simp)
  have hcap : L.length ≤ c := by
    obtain ⟨-, H⟩ := P.own
    rcases H with ⟨h1, -⟩ | ⟨b', sp, h1, h2, h3, h4, h5⟩
    · cases h1
    · omega
  refine ldS_of (by rw [P3.at_.rd]; rfl) ⟨by omega, by omega, ?_⟩
  rw [show (if c = 0 then (some ⟨b, 0, none⟩ : Option Addr) else Option.map (fun a => Addr.add a (0 * 2)) (some ⟨b, 0, none⟩)) = some ⟨b, 0, none⟩ by
    split
    · rfl
    · simp [Addr.add]]
  rw [Nat.sub_zero, Nat.sub_zero]
  refine stK_at P3.at_ (by simp) rfl fun h4 A4 O4 z4 => ?_
  obtain ⟨f, hf, hok⟩ := P3.map
  have f4 := hf.only O4 (by simpa using Ne.symm s5)
  have B4 := A3.only O4 (by simp; omega)
  refine ldM_some' (by rw [A4.rd]; rfl) (ldI_of (n := x.1) (by rw [B4.rd]; rfl) (del_mapF f4 fun h5 M5 O5 z5 => ?_))
  have B5 := B4.only O5 (by simp; omega)
  refine ldI_of (n := x.1) (by rw [B5.rd]; rfl) (ldI_of (n := x.2) (by rw [B5.rd]; rfl) ?_)
  refine hK h5 ⟨A4.only O5 (by simpa using s5), ?_, ⟨_, M5, hok.pop⟩, P.sep⟩ ?_
  · have own3 := P3.own
    rw [hln] at own3
    exact ((own3.cut).only O4 fun y hy => by
      injection hy with hy
      injection hy with hy
      subst hy
      simp only [OwnB, List.mem_singleton] at s3
      simpa using Ne.symm s3).only O5 fun y hy => by
        injection hy with hy
        injection hy with hy
        subst hy
        simp only [OwnB, List.mem_singleton] at s4
        simpa using Ne.symm s4
  · exact ((O13.mono (T := [pi, mb]) (by simp)).trans O4 (by simp)).trans O5 (by simp)
end
end Go.Proofs.Ytkdegjjenbbjfaa.Ev
