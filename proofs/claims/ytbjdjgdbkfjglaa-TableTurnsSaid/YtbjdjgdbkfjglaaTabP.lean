/- THE TABLE's PLAIN LAW: what finders' steps keep, with no program in sight. Conditions: none. -/
import Derived.Test.YtbjdjgdbkfjglaaTabD
namespace Go.Proofs.Ytbjdjgdbkfjglaa.Ev
open Go

/-- the slots that a key is looked for in, one behind the other -/
def path (n : Nat) (key : Int) (d : Nat) : Nat := (home key n + d) % n
theorem path_lt {n : Nat} {key : Int} {d : Nat} (hn : 1 ≤ n) : path n key d < n := Nat.mod_lt _ (by omega)
theorem path_surj {n : Nat} {key : Int} {i : Nat} (hi : i < n) : ∃ d, d < n ∧ path n key d = i := by
  have hh := home_lt key (show 1 ≤ n by omega)
  by_cases h : home key n ≤ i
  · exact ⟨i - home key n, by omega, by unfold path; rw [show home key n + (i - home key n) = i by omega]; exact Nat.mod_eq_of_lt hi⟩
  · exact ⟨i + n - home key n, by omega, by
      unfold path
      rw [show home key n + (i + n - home key n) = i + n by omega, Nat.add_mod_right]
      exact Nat.mod_eq_of_lt hi⟩
theorem path_succ {n : Nat} {key : Int} {d : Nat} : path n key (d + 1) = (path n key d + 1) % n := by
  unfold path
  rw [← Nat.add_assoc, Nat.mod_add_mod]
def Seen (base n : Nat) (cs : List Int) (key : Int) (d : Nat) : Prop := ∀ j, j < d → cell base cs (path n key j) ≠ 0 ∧ cell base cs (path n key j) ≠ key
/-- each key lies where it is found first -/
def TInv (base n : Nat) (cs : List Int) : Prop :=
  ∀ i, i < n → cell base cs i ≠ 0 → ∃ d, d < n ∧ path n (cell base cs i) d = i ∧ Seen base n cs (cell base cs i) d
structure Fok (base n : Nat) (cs : List Int) (F : Fi) : Prop where
  pos : F.pos < n
  left : F.left ≤ n
  going : F.done = false → F.key ≠ 0 ∧ 1 ≤ F.left ∧ F.pos = path n F.key (n - F.left) ∧ Seen base n cs F.key (n - F.left) ∧ F.made = false ∧ F.slot = -1 ∧ F.e = 61
  ended : F.done = true → (F.key = 0 ∧ F.slot = -1 ∧ F.e = 61 ∧ F.made = false) ∨ (F.key ≠ 0 ∧ F.e = 0 ∧ ∃ i : Nat, i < n ∧ F.slot = i ∧ cell base cs i = F.key) ∨
    (F.key ≠ 0 ∧ F.e = 60 ∧ F.slot = -1 ∧ F.made = false ∧ ∀ i, i < n → cell base cs i ≠ 0 ∧ cell base cs i ≠ F.key)
/-- keys stay -/
def Grow (base n : Nat) (cs cs' : List Int) : Prop := cs'.length = cs.length ∧ (∀ i, i < n → cell base cs i ≠ 0 → cell base cs' i = cell base cs i) ∧ ∀ x, x < base ∨ base + n ≤ x → cs'.getD x 0 = cs.getD x 0
theorem Grow.refl (base n : Nat) (cs : List Int) : Grow base n cs cs := ⟨rfl, fun _ _ _ => rfl, fun _ _ => rfl⟩
theorem Grow.trans {base n : Nat} {a b c : List Int} (H : Grow base n a b) (G : Grow base n b c) : Grow base n a c :=
  ⟨G.1.trans H.1, fun i hi h => by rw [G.2.1 i hi (by rw [H.2.1 i hi h]; exact h), H.2.1 i hi h], fun x hx => (G.2.2 x hx).trans (H.2.2 x hx)⟩
theorem Seen.grow {base n : Nat} {cs cs' : List Int} {key : Int} {d : Nat} (hn : 1 ≤ n) (H : Seen base n cs key d) (G : Grow base n cs cs') : Seen base n cs' key d := by
  intro j hj
  obtain ⟨a, b⟩ := H j hj
  rw [G.2.1 _ (path_lt hn) a]
  exact ⟨a, b⟩
theorem Fok.grow {base n : Nat} {cs cs' : List Int} {F : Fi} (hn : 1 ≤ n) (H : Fok base n cs F) (G : Grow base n cs cs') : Fok base n cs' F := by
  refine ⟨H.pos, H.left, fun hd => ?_, fun hd => ?_⟩
  · obtain ⟨a, b, c, d, e⟩ := H.going hd
    exact ⟨a, b, c, d.grow hn G, e⟩
  · rcases H.ended hd with h | ⟨a, b, i, hi, c, d⟩ | ⟨a, b, c, d, e⟩
    · exact Or.inl h
    · exact Or.inr (Or.inl ⟨a, b, i, hi, c, by rw [G.2.1 i hi (by rw [d]; exact a), d]⟩)
    · refine Or.inr (Or.inr ⟨a, b, c, d, fun i hi => ?_⟩)
      rw [G.2.1 i hi (e i hi).1]
      exact e i hi
theorem newFi_ok {base n : Nat} {cs : List Int} {key : Int} (hn : 1 ≤ n) : Fok base n cs (newFi key n) := by
  refine ⟨home_lt key hn, Nat.le_refl _, fun hd => ?_, fun hd => ?_⟩
  · have hk : key ≠ 0 := by simpa [newFi] using hd
    refine ⟨hk, hn, ?_, ?_, rfl, rfl, rfl⟩
    · show home key n = path n key (n - n)
      unfold path
      rw [Nat.sub_self, Nat.add_zero, Nat.mod_eq_of_lt (home_lt key hn)]
    · intro j hj
      simp [newFi] at hj
  · have hk : key = 0 := by simpa [newFi] using hd
    exact Or.inl ⟨hk, rfl, rfl, rfl⟩

section
variable {base n : Nat} {cs : List Int} {F : Fi}

theorem cell_set {i j : Nat} {v : Int} (hi : base + i < cs.length) : cell base (cs.set (base + i) v) j = if j = i then v else cell base cs j := by
  unfold cell
  by_cases h : j = i
  · subst h
    simp [hi]
  · simp only [List.getD, List.getElem?_set, if_neg (by omega : ¬ base + i = base + j), if_neg h]
theorem TInv.absent (T : TInv base n cs) {key : Int} {d : Nat} (hd : d < n) (hk : key ≠ 0) (S : Seen base n cs key d) (hz : cell base cs (path n key d) = 0) : ∀ j, j < n → cell base cs j ≠ key := by
  intro j hj e
  obtain ⟨d', h1, h2, h3⟩ := T j hj (by rw [e]; exact hk)
  rw [e] at h2 h3
  by_cases c1 : d' < d
  · have := (S d' c1).2
    rw [h2] at this
    exact this e
  · by_cases c2 : d' = d
    · subst c2
      rw [h2, e] at hz
      exact hk hz
    · exact (h3 d (by omega)).1 hz
theorem grow_set {i : Nat} {v : Int} (hi : i < n) (hc : base + n ≤ cs.length) (hz : cell base cs i = 0) : Grow base n cs (cs.set (base + i) v) := by
  refine ⟨by simp, fun j hj hnz => ?_, fun x hx => ?_⟩
  · rw [cell_set (by omega), if_neg (fun e => hnz (by rw [e]; exact hz))]
  · simp only [List.getD, List.getElem?_set, if_neg (by omega : ¬ base + i = x)]
theorem TInv.set (hn : 1 ≤ n) (hc : base + n ≤ cs.length) (T : TInv base n cs) {key : Int} {d : Nat} (hd : d < n) (S : Seen base n cs key d) (hz : cell base cs (path n key d) = 0) :
    TInv base n (cs.set (base + path n key d) key) := by
  have hp : path n key d < n := path_lt hn
  have G := grow_set (v := key) hp hc hz
  intro i hi hnz
  rw [cell_set (by omega)] at hnz ⊢
  by_cases h : i = path n key d
  · rw [if_pos h]
    exact ⟨d, hd, h.symm, S.grow hn G⟩
  · rw [if_neg h] at hnz ⊢
    obtain ⟨d', h1, h2, h3⟩ := T i hi hnz
    exact ⟨d', h1, h2, h3.grow hn G⟩

/-- what a step keeps, and what it makes -/
theorem step_ok (hn : 1 ≤ n) (hc : base + n ≤ cs.length) (T : TInv base n cs) (H : Fok base n cs F) :
    TInv base n (stepF base n cs F).2 ∧ Fok base n (stepF base n cs F).2 (stepF base n cs F).1 ∧ Grow base n cs (stepF base n cs F).2 ∧ (stepF base n cs F).1.key = F.key ∧
    (((stepF base n cs F).1.made = F.made ∧ (stepF base n cs F).2 = cs) ∨
      (F.done = false ∧ F.made = false ∧ (stepF base n cs F).1.made = true ∧ (stepF base n cs F).1.done = true ∧ (stepF base n cs F).1.slot = F.pos ∧ (stepF base n cs F).1.e = 0 ∧ F.pos < n ∧ cell base cs F.pos = 0 ∧ F.key ≠ 0 ∧ (∀ j, j < n → cell base cs j ≠ F.key) ∧ (stepF base n cs F).2 = cs.set (base + F.pos) F.key)) := by
  unfold stepF
  by_cases hd : F.done = true
  · rw [if_pos hd]
    exact ⟨T, H, Grow.refl _ _ _, rfl, Or.inl ⟨rfl, rfl⟩⟩
  · rw [if_neg hd]
    have hd' : F.done = false := by simpa using hd
    obtain ⟨hk, hl, hp, S, hm, hs, he⟩ := H.going hd'
    have hdn : n - F.left < n := by omega
    by_cases hcl : F.claims = true
    · rw [if_pos hcl]
      by_cases hz : cs.getD (base + F.pos) 0 = 0
      · rw [if_pos hz]
        have hz' : cell base cs F.pos = 0 := hz
        have hz2 : cell base cs (path n F.key (n - F.left)) = 0 := by rw [← hp]; exact hz'
        refine ⟨?_, ⟨H.pos, H.left, fun h => by simp at h, fun _ => Or.inr (Or.inl ⟨hk, rfl, F.pos, H.pos, rfl, ?_⟩)⟩, grow_set H.pos hc hz', rfl,
          Or.inr ⟨hd', hm, rfl, rfl, rfl, rfl, H.pos, hz', hk, T.absent hdn hk S hz2, rfl⟩⟩
        · have := T.set hn hc hdn S hz2
          rw [← hp] at this
          exact this
        · rw [cell_set (by have := H.pos; omega), if_pos rfl]
      · rw [if_neg hz]
        exact ⟨T, ⟨H.pos, H.left, fun _ => ⟨hk, hl, hp, S, hm, hs, he⟩, fun h => absurd h hd⟩, Grow.refl _ _ _, rfl, Or.inl ⟨rfl, rfl⟩⟩
    · rw [if_neg hcl]
      by_cases hkey : cs.getD (base + F.pos) 0 = F.key
      · rw [if_pos hkey]
        exact ⟨T, ⟨H.pos, H.left, fun h => by simp at h, fun _ => Or.inr (Or.inl ⟨hk, rfl, F.pos, H.pos, rfl, hkey⟩)⟩, Grow.refl _ _ _, rfl, Or.inl ⟨rfl, rfl⟩⟩
      · rw [if_neg hkey]
        by_cases hz : cs.getD (base + F.pos) 0 = 0
        · rw [if_pos hz]
          exact ⟨T, ⟨H.pos, H.left, fun _ => ⟨hk, hl, hp, S, hm, hs, he⟩, fun h => absurd h hd⟩, Grow.refl _ _ _, rfl, Or.inl ⟨rfl, rfl⟩⟩
        · rw [if_neg hz]
          have S' : Seen base n cs F.key (n - F.left + 1) := by
            intro j hj
            by_cases h' : j < n - F.left
            · exact S j h'
            · obtain rfl : j = n - F.left := by omega
              rw [← hp]
              exact ⟨hz, hkey⟩
          have hp' : (F.pos + 1) % n < n := Nat.mod_lt _ (by omega)
          by_cases h1 : F.left = 1
          · rw [if_pos h1]
            refine ⟨T, ⟨hp', Nat.zero_le _, fun h => by simp at h, fun _ => Or.inr (Or.inr ⟨hk, rfl, rfl, hm, fun i hi => ?_⟩)⟩, Grow.refl _ _ _, rfl, Or.inl ⟨rfl, rfl⟩⟩
            obtain ⟨d, hd1, hd2⟩ := path_surj (key := F.key) hi
            rw [← hd2]
            exact S' d (by omega)
          · rw [if_neg h1]
            refine ⟨T, ⟨hp', by have := H.left; show F.left - 1 ≤ n; omega, fun _ => ⟨hk, by show 1 ≤ F.left - 1; omega, ?_, ?_, hm, hs, he⟩, fun h => absurd h hd⟩, Grow.refl _ _ _, rfl, Or.inl ⟨rfl, rfl⟩⟩
            · show (F.pos + 1) % n = path n F.key (n - (F.left - 1))
              have := H.left
              rw [show n - (F.left - 1) = (n - F.left) + 1 by omega, path_succ, ← hp]
            · show Seen base n cs F.key (n - (F.left - 1))
              have := H.left
              rw [show n - (F.left - 1) = (n - F.left) + 1 by omega]
              exact S'

/-- how many steps a finder may do yet -/
def pot (base : Nat) (cs : List Int) (F : Fi) : Nat :=
  if F.done then 0 else 3 * (F.left - 1) + (if F.claims then 2 else if cell base cs F.pos = 0 then 3 else 1)
theorem pot_of_done (h : F.done = true) : pot base cs F = 0 := by unfold pot; rw [if_pos h]
theorem pot_of_claims (h : F.done = false) (hc : F.claims = true) : pot base cs F = 3 * (F.left - 1) + 2 := by unfold pot; rw [if_neg (by simp [h]), if_pos hc]
theorem pot_of_zero (h : F.done = false) (hc : F.claims = false) (hz : cell base cs F.pos = 0) : pot base cs F = 3 * (F.left - 1) + 3 := by unfold pot; rw [if_neg (by simp [h]), if_neg (by simp [hc]), if_pos hz]
theorem pot_of_full (h : F.done = false) (hc : F.claims = false) (hz : cell base cs F.pos ≠ 0) : pot base cs F = 3 * (F.left - 1) + 1 := by unfold pot; rw [if_neg (by simp [h]), if_neg (by simp [hc]), if_neg hz]
theorem pot_le (h : F.done = false) (hc : F.claims = false) : pot base cs F ≤ 3 * (F.left - 1) + 3 ∧ 3 * (F.left - 1) + 1 ≤ pot base cs F := by
  by_cases hz : cell base cs F.pos = 0
  · rw [pot_of_zero h hc hz]; omega
  · rw [pot_of_full h hc hz]; omega
theorem pot_new {key : Int} (hn : 1 ≤ n) : pot base cs (newFi key n) ≤ 3 * n := by
  by_cases h : (newFi key n).done = true
  · rw [pot_of_done h]; omega
  · have := (pot_le (base := base) (cs := cs) (F := newFi key n) (by simpa using h) rfl).1
    have e : (newFi key n).left = n := rfl
    rw [e] at this
    omega
theorem pot_step (H : Fok base n cs F) (hd : F.done = false) : pot base (stepF base n cs F).2 (stepF base n cs F).1 < pot base cs F := by
  obtain ⟨hk, hl, hp, S, hm, hs, he⟩ := H.going hd
  by_cases hcl : F.claims = true
  · rw [pot_of_claims hd hcl]
    by_cases hz : cs.getD (base + F.pos) 0 = 0
    · rw [pot_of_done (by unfold stepF; rw [if_neg (by simp [hd]), if_pos hcl, if_pos hz])]
      omega
    · have e : stepF base n cs F = ({ F with claims := false }, cs) := by unfold stepF; rw [if_neg (by simp [hd]), if_pos hcl, if_neg hz]
      rw [e, pot_of_full (F := { F with claims := false }) hd rfl hz]
      show 3 * (F.left - 1) + 1 < _
      omega
  · have hcl' : F.claims = false := by simpa using hcl
    have hle := pot_le (base := base) (cs := cs) hd hcl'
    by_cases hkey : cs.getD (base + F.pos) 0 = F.key
    · rw [pot_of_done (by unfold stepF; rw [if_neg (by simp [hd]), if_neg hcl, if_pos hkey])]
      omega
    · by_cases hz : cs.getD (base + F.pos) 0 = 0
      · have e : stepF base n cs F = ({ F with claims := true }, cs) := by unfold stepF; rw [if_neg (by simp [hd]), if_neg hcl, if_neg hkey, if_pos hz]
        rw [e, pot_of_claims (F := { F with claims := true }) hd rfl, pot_of_zero hd hcl' hz]
        show 3 * (F.left - 1) + 2 < _
        omega
      · by_cases h1 : F.left = 1
        · rw [pot_of_done (by unfold stepF; rw [if_neg (by simp [hd]), if_neg hcl, if_neg hkey, if_neg hz, if_pos h1])]
          omega
        · have e : stepF base n cs F = ({ F with pos := (F.pos + 1) % n, left := F.left - 1 }, cs) := by unfold stepF; rw [if_neg (by simp [hd]), if_neg hcl, if_neg hkey, if_neg hz, if_neg h1]
          have h2 := (pot_le (base := base) (cs := cs) (F := { F with pos := (F.pos + 1) % n, left := F.left - 1 }) hd hcl').1
          rw [e]
          refine Nat.lt_of_le_of_lt h2 ?_
          show 3 * (F.left - 1 - 1) + 3 < _
          omega
theorem pot_grow {cs' : List Int} (H : Fok base n cs F) (G : Grow base n cs cs') : pot base cs' F ≤ pot base cs F := by
  unfold pot
  by_cases h : cell base cs F.pos = 0
  · simp only [h, if_true]
    repeat (first | split | omega)
  · rw [G.2.1 _ H.pos h]
    exact Nat.le_refl _
theorem pot_done (H : pot base cs F = 0) : F.done = true := by
  unfold pot at H
  by_cases h : F.done = true
  · exact h
  · rw [if_neg h] at H
    split at H
    · omega
    · split at H <;> omega

/-- a finder that goes alone -/
def Run (base n : Nat) (cs0 cs : List Int) (F : Fi) : Prop :=
  Fok base n cs F ∧ TInv base n cs ∧ Grow base n cs0 cs ∧ ((F.made = false ∧ cs = cs0) ∨ (F.made = true ∧ F.done = true ∧ F.e = 0 ∧ F.key ≠ 0 ∧ ∃ i : Nat, i < n ∧ F.slot = i ∧ cell base cs0 i = 0 ∧ (∀ j, j < n → cell base cs0 j ≠ F.key) ∧ cs = cs0.set (base + i) F.key))
theorem Run.new {cs0 : List Int} {key : Int} (hn : 1 ≤ n) (T : TInv base n cs0) : Run base n cs0 cs0 (newFi key n) :=
  ⟨newFi_ok hn, T, Grow.refl _ _ _, Or.inl ⟨rfl, rfl⟩⟩
theorem Run.step {cs0 : List Int} (hn : 1 ≤ n) (hc : base + n ≤ cs.length) (R : Run base n cs0 cs F) : Run base n cs0 (stepF base n cs F).2 (stepF base n cs F).1 ∧ (stepF base n cs F).1.key = F.key := by
  obtain ⟨H, T, G, D⟩ := R
  obtain ⟨s1, s2, s3, s4, s5⟩ := step_ok hn hc T H
  refine ⟨⟨s2, s1, G.trans s3, ?_⟩, s4⟩
  rcases D with ⟨d1, d2⟩ | ⟨d1, d2, d3, d4, d5⟩
  · subst d2
    rcases s5 with ⟨e1, e2⟩ | ⟨e1, e2, e3, e4, e5, e6, e7, e8, e9, e10, e11⟩
    · exact Or.inl ⟨e1.trans d1, e2⟩
    · exact Or.inr ⟨e3, e4, e6, by rw [s4]; exact e9, F.pos, e7, e5, e8, by rw [s4]; exact e10, by rw [s4]; exact e11⟩
  · have e : stepF base n cs F = (F, cs) := by unfold stepF; rw [if_pos d2]
    rw [e]
    exact Or.inr ⟨d1, d2, d3, d4, d5⟩

theorem cnt_set {i : Nat} {v : Int} (hv : v ≠ 0) (hz : cell base cs i = 0) (hi : base + i < cs.length) : ∀ m, cnt base (cs.set (base + i) v) m = cnt base cs m + (if i < m then 1 else 0) := by
  intro m
  induction m with
  | zero => rfl
  | succ m ih =>
    unfold cnt
    rw [ih, cell_set hi]
    by_cases h : m = i
    · subst h
      simp [hv, hz]
    · rw [if_neg h]
      by_cases h' : i < m
      · rw [if_pos h', if_pos (by omega : i < m + 1)]
        omega
      · rw [if_neg h', if_neg (by omega : ¬ i < m + 1)]
        omega
theorem cnt_full : ∀ m, (∀ i, i < m → cell base cs i ≠ 0) → cnt base cs m = m := by
  intro m
  induction m with
  | zero => intro _; rfl
  | succ m ih =>
    intro h
    unfold cnt
    rw [ih fun i hi => h i (by omega), if_neg (h m (by omega))]
theorem cnt_zero : ∀ m, (∀ i, i < m → cell base cs i = 0) → cnt base cs m = 0 := by
  intro m
  induction m with
  | zero => intro _; rfl
  | succ m ih =>
    intro h
    unfold cnt
    rw [ih fun i hi => h i (by omega), if_pos (h m (by omega))]
theorem TInv.empty (h : ∀ i, i < n → cell base cs i = 0) : TInv base n cs := fun i hi hnz => absurd (h i hi) hnz
/-- a key has one place -/
theorem TInv.uniq (T : TInv base n cs) {i j : Nat} (hi : i < n) (hj : j < n) (hnz : cell base cs i ≠ 0) (e : cell base cs i = cell base cs j) : i = j := by
  obtain ⟨d, a1, a2, a3⟩ := T i hi hnz
  obtain ⟨d', b1, b2, b3⟩ := T j hj (by rw [← e]; exact hnz)
  rw [← e] at b2 b3
  by_cases c1 : d < d'
  · have := (b3 d c1).2
    rw [a2] at this
    exact absurd rfl this
  · by_cases c2 : d' < d
    · have := (a3 d' c2).2
      rw [b2] at this
      exact absurd e.symm this
    · obtain rfl : d = d' := by omega
      rw [← a2, ← b2]
theorem cnt_ext {cs' : List Int} : ∀ m, (∀ i, i < m → cell base cs' i = cell base cs i) → cnt base cs' m = cnt base cs m := by
  intro m
  induction m with
  | zero => intro _; rfl
  | succ m ih =>
    intro h
    unfold cnt
    rw [ih fun i hi => h i (by omega), h m (by omega)]
end
end Go.Proofs.Ytbjdjgdbkfjglaa.Ev
