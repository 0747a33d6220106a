/- THE LAW OF TURNS (TableTurns), its plain part and its end: many finders of one table. Conditions: none. -/
import Derived.Test.YtbjdjgdbkfjglaaTabL3
namespace Go.Proofs.Ytbjdjgdbkfjglaa.Ev
open Go

theorem Own.set {h : Heap} {lo N : Nat} {l c b j : Nat} {cs : List Value} {v : Value} {K : Heap → Prop} (H : Own h lo N (some ⟨b, 0, none⟩) l c cs) (hj : j < cs.length) (hv : v.oneCell' = true)
    (hK : ∀ h', Own h' lo N (some ⟨b, 0, none⟩) l c (cs.set j v) → Only [b] h h' → K h') : stK h ⟨b, j, none⟩ v K := by
  obtain ⟨e, H⟩ := H
  rcases H with ⟨h1, -⟩ | ⟨b', sp, h1, h2, h3, h4, h5⟩
  · cases h1
  · injection h1 with h1
    injection h1 with h1
    subst h1
    refine stK_at h5 (by simp; omega) hv fun h' A O _ => hK h' ⟨by simp [e], Or.inr ⟨b, sp, rfl, h2, h3, h4, ?_⟩⟩ O
    rw [List.set_append_left _ _ hj] at A
    exact A
def rowV (L : Nat) (g : Nat → Value) : List Value := (List.range L).map g
theorem rowV_len (L : Nat) (g : Nat → Value) : (rowV L g).length = L := by simp [rowV]
theorem rowV_get {L k : Nat} {g : Nat → Value} (hk : k < L) : (rowV L g)[k]? = some (g k) := by simp [rowV, hk]
theorem rowV_set (L k : Nat) (g : Nat → Value) (v : Value) : (rowV L g).set k v = rowV L fun j => if j = k then v else g j := by
  apply List.ext_getElem?
  intro i
  by_cases hi : i < L
  · rw [rowV_get hi, List.getElem?_set]
    by_cases h : k = i
    · subst h
      rw [if_pos rfl, if_pos (by rw [rowV_len]; exact hi), if_pos rfl]
    · rw [if_neg h, rowV_get hi, if_neg (Ne.symm h)]
  · rw [List.getElem?_eq_none (by simp [rowV_len]; omega), List.getElem?_eq_none (by simp [rowV_len]; omega)]
theorem rowV_succ (L : Nat) (g : Nat → Value) : rowV (L + 1) g = rowV L g ++ [g L] := by simp [rowV, List.range_succ]
theorem rowV_ext {L : Nat} {g g' : Nat → Value} (h : ∀ k, k < L → g k = g' k) : rowV L g = rowV L g' := List.map_congr_left fun k hk => h k (List.mem_range.1 hk)

def ptrOf (b : Nat) : Value := .pointer (some ⟨b, 0, none⟩)
def fset {α : Type} (f : Nat → α) (k : Nat) (v : α) : Nat → α := fun j => if j = k then v else f j
theorem fset_same {α : Type} (f : Nat → α) (k : Nat) (v : α) : fset f k v k = v := if_pos rfl
theorem fset_other {α : Type} (f : Nat → α) {k j : Nat} (v : α) (h : j ≠ k) : fset f k v j = f j := if_neg h

/-- many finders: what they keep together -/
structure Ms (n L : Nat) (cs : List Int) (Fs : Nat → Fi) : Prop where
  ok : ∀ k, k < L → Fok 0 n cs (Fs k)
  T : TInv 0 n cs
  U : ∀ k l, k < L → l < L → (Fs k).made = true → (Fs l).made = true → (Fs k).key = (Fs l).key → k = l
  E : ∀ x, x < n → cell 0 cs x ≠ 0 → ∃ k, k < L ∧ (Fs k).made = true ∧ (Fs k).key = cell 0 cs x
theorem Fok.made_cell {n : Nat} {cs : List Int} {F : Fi} (H : Fok 0 n cs F) (hm : F.made = true) : ∃ x, x < n ∧ cell 0 cs x = F.key ∧ F.key ≠ 0 := by
  cases hd : F.done with
  | false =>
    have := (H.going hd).2.2.2.2.1
    rw [hm] at this
    cases this
  | true =>
    rcases H.ended hd with ⟨_, _, _, e⟩ | ⟨a, _, x, hx, _, e⟩ | ⟨_, _, _, e, _⟩
    · rw [hm] at e; cases e
    · exact ⟨x, hx, e, a⟩
    · rw [hm] at e; cases e
theorem Ms.step {n L : Nat} {cs : List Int} {Fs : Nat → Fi} (M : Ms n L cs Fs) (hn : 1 ≤ n) (hc : 0 + n ≤ cs.length) {k : Nat} (hk : k < L) :
    Ms n L (stepF 0 n cs (Fs k)).2 (fset Fs k (stepF 0 n cs (Fs k)).1) ∧ (∀ j, j < L → (fset Fs k (stepF 0 n cs (Fs k)).1 j).key = (Fs j).key) ∧
      (∀ j, j < L → j ≠ k → pot 0 (stepF 0 n cs (Fs k)).2 (Fs j) ≤ pot 0 cs (Fs j)) := by
  obtain ⟨s1, s2, s3, s4, s5⟩ := step_ok hn hc M.T (M.ok k hk)
  have hkey : ∀ j, (fset Fs k (stepF 0 n cs (Fs k)).1 j).key = (Fs j).key := by
    intro j
    by_cases h : j = k
    · subst h; rw [fset_same]; exact s4
    · rw [fset_other _ _ h]
  refine ⟨⟨fun j hj => ?_, s1, ?_, ?_⟩, fun j _ => hkey j, fun j hj _ => pot_grow (M.ok j hj) s3⟩
  · by_cases h : j = k
    · subst h; rw [fset_same]; exact s2
    · rw [fset_other _ _ h]; exact (M.ok j hj).grow hn s3
  · intro a b ha hb ma mb e
    rw [hkey, hkey] at e
    rcases s5 with ⟨e1, _⟩ | ⟨_, _, _, _, _, _, _, _, _, habs, _⟩
    · have hm : ∀ j, (fset Fs k (stepF 0 n cs (Fs k)).1 j).made = (Fs j).made := by
        intro j
        by_cases h : j = k
        · subst h; rw [fset_same]; exact e1
        · rw [fset_other _ _ h]
      rw [hm] at ma mb
      exact M.U a b ha hb ma mb e
    · by_cases h1 : a = k
      · by_cases h2 : b = k
        · exact h1.trans h2.symm
        · subst h1
          rw [fset_other _ _ h2] at mb
          obtain ⟨x, hx, ex, _⟩ := (M.ok b hb).made_cell mb
          exact absurd (ex.trans e.symm) (habs x hx)
      · by_cases h2 : b = k
        · subst h2
          rw [fset_other _ _ h1] at ma
          obtain ⟨x, hx, ex, _⟩ := (M.ok a ha).made_cell ma
          exact absurd (ex.trans e) (habs x hx)
        · rw [fset_other _ _ h1] at ma
          rw [fset_other _ _ h2] at mb
          exact M.U a b ha hb ma mb e
  · intro x hx hnz
    rcases s5 with ⟨e1, e2⟩ | ⟨_, _, em, _, _, _, hp, hz, _, habs, e2⟩
    · rw [e2] at hnz ⊢
      obtain ⟨j, hj, mj, ej⟩ := M.E x hx hnz
      refine ⟨j, hj, ?_, by rw [hkey]; exact ej⟩
      by_cases h : j = k
      · subst h; rw [fset_same, e1]; exact mj
      · rw [fset_other _ _ h]; exact mj
    · rw [e2, cell_set (by omega)] at hnz ⊢
      by_cases h : x = (Fs k).pos
      · rw [if_pos h]
        exact ⟨k, hk, by rw [fset_same]; exact em, by rw [hkey]⟩
      · rw [if_neg h] at hnz ⊢
        obtain ⟨j, hj, mj, ej⟩ := M.E x hx hnz
        refine ⟨j, hj, ?_, by rw [hkey]; exact ej⟩
        by_cases h' : j = k
        · subst h'; rw [fset_same]; exact em
        · rw [fset_other _ _ h']; exact mj

/-- many finders in memory -/
structure Mf (h0 h : Heap) (t m mc L : Nat) (fb : Nat → Nat) (Fs : Nat → Fi) : Prop where
  find : ∀ k, k < L → FindIs h (fb k) t (Fs k)
  ne : ∀ k l, k < L → l < L → k ≠ l → fb k ≠ fb l
  out : ∀ k, k < L → h0.size ≤ fb k ∧ fb k ≠ t ∧ fb k ≠ m ∧ fb k ≠ mc
theorem Mf.only {S : List Nat} {h0 h h' : Heap} {t m mc L : Nat} {fb : Nat → Nat} {Fs : Nat → Fi} (H : Mf h0 h t m mc L fb Fs) (O : Only S h h') (hS : ∀ k, k < L → fb k ∉ S) : Mf h0 h' t m mc L fb Fs :=
  ⟨fun k hk => (H.find k hk).only O (hS k hk), H.ne, H.out⟩
theorem Mf.next {h0 h h' : Heap} {t m mc L : Nat} {fb : Nat → Nat} {Fs : Nat → Fi} (H : Mf h0 h t m mc L fb Fs) (O : Only [m, mc] h h') : Mf h0 h' t m mc L fb Fs :=
  H.only O fun k hk => by obtain ⟨_, _, a, b⟩ := H.out k hk; simp [a, b]
theorem Mf.step {h0 h h' : Heap} {t m mc L k : Nat} {fb : Nat → Nat} {Fs : Nat → Fi} {F : Fi} (H : Mf h0 h t m mc L fb Fs) (hk : k < L) (O : Only [fb k, m, mc] h h') (G : FindIs h' (fb k) t F) : Mf h0 h' t m mc L fb (fset Fs k F) := by
  refine ⟨fun j hj => ?_, H.ne, H.out⟩
  by_cases e : j = k
  · subst e; rw [fset_same]; exact G
  · rw [fset_other _ _ e]
    obtain ⟨_, _, a, b⟩ := H.out j hj
    exact (H.find j hj).only O (by simp [H.ne j k hj hk e, a, b])

/-- makers of a key, so far -/
def mkN (Fs : Nat → Fi) (k : Int) : Nat → Nat
  | 0 => 0
  | j + 1 => mkN Fs k j + (if (Fs j).key = k ∧ (Fs j).made = true then 1 else 0)
theorem mkN_le (Fs : Nat → Fi) (k : Int) : ∀ j, mkN Fs k j ≤ j
  | 0 => Nat.le_refl _
  | j + 1 => by
    have := mkN_le Fs k j
    unfold mkN
    split <;> omega
theorem mkN_one {n L : Nat} {cs : List Int} {Fs : Nat → Fi} (M : Ms n L cs Fs) {x : Nat} (hx : x < n) (hnz : cell 0 cs x ≠ 0) : mkN Fs (cell 0 cs x) L = 1 := by
  obtain ⟨k, hk, mk, ek⟩ := M.E x hx hnz
  have : ∀ j, j ≤ L → mkN Fs (cell 0 cs x) j = if k < j then 1 else 0 := by
    intro j
    induction j with
    | zero => intro _; simp [mkN]
    | succ j ih =>
      intro hj
      unfold mkN
      rw [ih (by omega)]
      by_cases h : j = k
      · subst h
        rw [if_neg (Nat.lt_irrefl _), if_pos ⟨ek, mk⟩, if_pos (by omega)]
      · have hne : ¬ ((Fs j).key = cell 0 cs x ∧ (Fs j).made = true) := fun e => h (M.U j k (by omega) hk e.2 mk (e.1.trans ek.symm))
        rw [if_neg hne]
        by_cases h' : k < j
        · rw [if_pos h', if_pos (by omega)]
        · rw [if_neg h', if_neg (by omega)]
  rw [this L (Nat.le_refl _), if_pos hk]

section
variable {h0 : Heap} {t m mc n L : Nat} {p q : Option Addr} {cp cq : Nat} {ks : List Int} {fb : Nat → Nat} {Fs : Nat → Fi} {cs : List Int} {K : Value → Heap → Prop} {kinds : Int}

theorem ended_spec (hkr : ∀ z ∈ ks, IntKind.min .u8 ≤ z ∧ z ≤ IntKind.max .u8) (k0 : 0 < kinds) (k1 : kinds < 1000) (hL : ks.length = L) (hL12 : L ≤ 12) (hI : Ints h0 .u8 p ks) (M : Ms n L cs Fs) (hd : ∀ k, k < L → (Fs k).done = true)
    (hkey : ∀ k, k < L → (Fs k).key = keyOf (ks.getD k 0) kinds) (s1 : h0.size ≤ m) (s2 : h0.size ≤ mc) (q1 : m ∉ OwnB q) (q2 : mc ∉ OwnB q)
    (hK : ∀ h', Only [] h0 h' → K (.bool true) h') {ops fails : Int} {h : Heap} (W : TW h t m mc 0 n cs ops fails) (B : Mf h0 h t m mc L fb Fs) (Q : Own h h0.size 1 q L cq (rowV L fun k => ptrOf (fb k))) (O : Only [] h0 h) :
    CallsH Try.prog 25 [.pointer (some ⟨t, 0, none⟩), .slice q L cq, .slice p L cp, .int .i64 kinds, .int .i64 (n : Int)] h K := by
  apply F25.spec
  unfold F25.w F25.J0 F25.wk2 F25.Jk2
  have hM : ∀ x ∈ [m, mc], h0.size ≤ x := by simp; omega
  have hqm : ∀ b, q = some ⟨b, 0, none⟩ → b ∉ [m, mc] := by
    intro b hb
    subst hb
    simp [OwnB] at q1 q2
    simp [Ne.symm q1, Ne.symm q2]
  have knz : ∀ k, k < L → (Fs k).key ≠ 0 := fun k hk => by rw [hkey k hk]; exact keyOf_nz (range_getD hkr (by omega)) k0 k1
  -- what is read at an index
  have rdf : ∀ (h' : Heap) (k : Nat), k < L → Own h' h0.size 1 q L cq (rowV L fun k => ptrOf (fb k)) → ∃ b, q = some ⟨b, 0, none⟩ ∧ rd h' ⟨b, k, none⟩ = some (ptrOf (fb k)) := by
    intro h' k hk Q'
    obtain ⟨b, e, hr⟩ := Q'.rd (j := k) (by rw [rowV_len]; exact hk)
    exact ⟨b, e, by rw [hr, rowV_get hk]⟩
  have outer : ∀ (g i : Nat) (h : Heap) (ops : Int), L - i < g → i ≤ L → TW h t m mc 0 n cs ops fails → Mf h0 h t m mc L fb Fs → Own h h0.size 1 q L cq (rowV L fun k => ptrOf (fb k)) → Only [] h0 h →
      F25.wL2 g ⟨t, 0, none⟩ q L cq p L cp kinds (n : Int) (i : Int) h K := by
    intro g
    induction g with
    | zero => intro i h ops hg; omega
    | succ g ih =>
      intro i h ops hg hi W B Q O
      unfold F25.wL2 F25.JL2
      by_cases hlt : i < L
      · rw [decide_eq_true (by omega), bcase_true]
        have e1 : IntKind.wrap .i64 ((i : Int) + 1) = ((i + 1 : Nat) : Int) := by rw [wrap_i64 (by omega) (by omega)]; simp
        obtain ⟨b, rfl, hb⟩ := rdf h i hlt Q
        obtain ⟨a, rfl, ha⟩ := hI.only O (by simp) i (by omega)
        refine ⟨by omega, by omega, ?_⟩
        simp only [ptrK_some, Int.toNat_natCast, Nat.mul_one, add_mk, Nat.zero_add]
        refine ldP_of hb (slot_spec (B.find i hlt) ⟨_, _, rfl, by omega, by omega, ldP_of hb (done_spec (B.find i hlt) (ldB_of rfl ?_))⟩)
        rw [hd i hlt, Bool.not_true, bcase_false]
        refine ⟨by omega, by omega, ldI_of ha (key_spec (by omega) (ldI_of rfl ?_))⟩
        rw [← hkey i hlt]
        rcases (M.ok i hlt).ended (hd i hlt) with ⟨z, _⟩ | ⟨_, e, x, hx, es, ex⟩ | ⟨_, e, es, em, full⟩
        · exact absurd z (knz i hlt)
        · rw [e, es, show ((0 : Int) != 0) = false from rfl, bcase_false]
          refine at_tw W hx fun h1 W1 O1 => ldI_of rfl ?_
          rw [ex, bne_self_eq_false, bcase_false]
          have B1 := B.next O1
          have Q1 := Q.only O1 hqm
          have P1 := O.nil O1 hM
          have one := mkN_one M hx (by rw [ex]; exact knz i hlt)
          rw [ex] at one
          unfold F25.wk18 F25.Jk18
          have inner : ∀ (g2 j : Nat), L - j < g2 → j ≤ L → F25.wL18 (fun x0 x1p x1l x1c x2p x2l x2c x3 x4 x11 h => F25.wL2 g x0 x1p x1l x1c x2p x2l x2c x3 x4 x11 h K) g2 ⟨t, 0, none⟩ (some ⟨b, 0, none⟩) L cq (some a) L cp kinds (n : Int) (i : Int) (x : Int) (Fs i).key (mkN Fs (Fs i).key j : Int) (j : Int) h1 K := by
            intro g2
            induction g2 with
            | zero => intro j hj; omega
            | succ g2 ih2 =>
              intro j hj hjL
              unfold F25.wL18 F25.JL18
              have ml := mkN_le Fs (Fs i).key j
              by_cases hjt : j < L
              · rw [decide_eq_true (by omega : (j : Int) < (Nat.cast L : Int)), bcase_true]
                have ej : IntKind.wrap .i64 ((j : Int) + 1) = ((j + 1 : Nat) : Int) := by rw [wrap_i64 (by omega) (by omega)]; simp
                obtain ⟨b', eb, hb'⟩ := rdf h1 j hjt Q1
                injection eb with eb
                injection eb with eb
                subst eb
                obtain ⟨a', ea, ha'⟩ := hI.only P1 (by simp) j (by omega)
                injection ea with ea
                subst ea
                refine ⟨by omega, by omega, ?_⟩
                simp only [ptrK_some, Int.toNat_natCast, Nat.mul_one, add_mk, Nat.zero_add]
                refine ldP_of hb' (slot_spec (B1.find j hjt) ⟨_, _, rfl, by omega, by omega, ldI_of ha' (key_spec (by omega) (ldI_of rfl ?_))⟩)
                rw [← hkey j hjt]
                have nxt := ih2 (j + 1) (by omega) (by omega)
                unfold mkN at nxt
                rw [ej]
                by_cases hsame : (Fs j).key = (Fs i).key
                · rw [show ((Fs j).key == (Fs i).key) = true by simpa using hsame, bcase_true]
                  rcases (M.ok j hjt).ended (hd j hjt) with ⟨z, _⟩ | ⟨_, e', y, hy, es', ey⟩ | ⟨_, _, _, _, full⟩
                  · exact absurd z (knz j hjt)
                  · have hxy : y = x := M.T.uniq hy hx (by rw [ey]; exact knz j hjt) (by rw [ey, ex]; exact hsame)
                    subst hxy
                    rw [e', es', show ((0 : Int) != 0) = false from rfl, bcase_false, bne_self_eq_false, bcase_false, show (!true) = false from rfl, bcase_false]
                    simp only [bcase_true]
                    refine ⟨by omega, by omega, ldP_of hb' (made_spec (B1.find j hjt) (ldB_of rfl ?_))⟩
                    cases hm : (Fs j).made with
                    | true =>
                      rw [if_pos ⟨hsame, hm⟩] at nxt
                      rw [bcase_true, show IntKind.wrap .i64 ((mkN Fs (Fs i).key j : Int) + 1) = ((mkN Fs (Fs i).key j + 1 : Nat) : Int) by rw [wrap_i64 (by omega) (by omega)]; simp]
                      exact nxt
                    | false =>
                      rw [if_neg (by simp [hm])] at nxt
                      rw [bcase_false]
                      exact nxt
                  · exact absurd (ex.trans hsame.symm) (full x hx).2
                · rw [if_neg (fun e => hsame e.1)] at nxt
                  rw [show ((Fs j).key == (Fs i).key) = false by simpa using hsame, bcase_false, show (!false) = true from rfl, bcase_true]
                  simp only [bcase_false]
                  refine bcase_of (fun e0 => bcase_of (fun ex' => ?_) fun _ => nxt) fun _ => nxt
                  rcases (M.ok j hjt).ended (hd j hjt) with ⟨z, _⟩ | ⟨_, e', y, hy, es', ey⟩ | ⟨_, e', _, _, _⟩
                  · exact absurd z (knz j hjt)
                  · have : (Fs j).slot = x := by simpa using ex'
                    have : y = x := by omega
                    subst this
                    exact absurd (ey.symm.trans ex) hsame
                  · rw [e'] at e0
                    exact absurd e0 (by decide)
              · rw [decide_eq_false (by omega : ¬ (j : Int) < (Nat.cast L : Int)), bcase_false]
                obtain rfl : j = L := by omega
                rw [one]
                have := ih (i + 1) h1 _ (by omega) (by omega) W1 B1 Q1 P1
                simpa [e1] using this
          exact ⟨L + 1, inner (L + 1) 0 (by omega) (by omega)⟩
        · rw [e, es, show ((60 : Int) != 0) = true from rfl, bcase_true, show ((60 : Int) != 60) = false from rfl, bcase_false, show ((-1 : Int) != -1) = false from rfl, bcase_false]
          refine ⟨by omega, by omega, ldP_of hb (made_spec (B.find i hlt) (ldB_of rfl ?_))⟩
          rw [em, bcase_false]
          refine len_tw W fun h1 ops1 W1 O1 => ldI_of rfl ?_
          rw [cnt_full n fun y hy => (full y hy).1, bne_self_eq_false, bcase_false]
          refine has_tw W1 (fun y h2 ops2 _ hy ey _ _ => absurd ey (full y hy).2) fun h2 ops2 _ W2 O2 => ⟨_, _, rfl, ?_⟩
          rw [bcase_false, e1]
          exact ih (i + 1) h2 ops2 (by omega) (by omega) W2 ((B.next O1).next O2) ((Q.only O1 hqm).only O2 hqm) ((O.nil O1 hM).nil O2 hM)
      · rw [decide_eq_false (by omega), bcase_false]
        exact hK h O
  exact ⟨L + 1, outer (L + 1) 0 h ops (by omega) (by omega) W B Q O⟩
end
end Go.Proofs.Ytbjdjgdbkfjglaa.Ev
