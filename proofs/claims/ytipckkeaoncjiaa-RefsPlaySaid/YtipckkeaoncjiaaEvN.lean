/- MAPS whose keys are whole numbers: what a look, a write, a deletion do. Conditions: the map stands (MapM, MapF). -/
import Derived.Test.YtipckkeaoncjiaaEvL
namespace Go.Proofs.Ytipckkeaoncjiaa.Ev
open Go

/-- block b is a map of these keys and values, in this order -/
def MapM (h : Heap) (b : Nat) (k : IntKind) (m : List (Int × Value)) : Prop :=
  ∃ es cl, mp h b = some (es, cl) ∧ es.toList.map (fun e => (e.key, e.val)) = m.map (fun p => (Value.int k p.1, p.2)) ∧ (m.map (·.1)).Nodup ∧ (es.toList.map (·.born)).Nodup ∧ ∀ e ∈ es.toList, e.born < cl
theorem MapM.lt {h : Heap} {b : Nat} {k : IntKind} {m : List (Int × Value)} (H : MapM h b k m) : b < h.size := by
  obtain ⟨es, cl, h1, -⟩ := H
  unfold mp at h1
  cases hh : h[b]? with
  | none => rw [hh] at h1; cases h1
  | some o => exact (Array.getElem?_eq_some_iff.1 hh).1
theorem MapM.only {S : List Nat} {h h' : Heap} {b : Nat} {k : IntKind} {m : List (Int × Value)} (H : MapM h b k m) (O : Only S h h') (hb : b ∉ S) : MapM h' b k m := by
  have hl := H.lt
  obtain ⟨es, cl, h1, h2⟩ := H
  refine ⟨es, cl, ?_, h2⟩
  unfold mp at h1 ⊢
  rw [O.same b hl hb]
  exact h1
theorem mp_obj {h : Heap} {b : Nat} {es : Array MapEntry} {cl : Nat} (h1 : mp h b = some (es, cl)) : h[b]? = some (.map es cl) := by
  unfold mp at h1
  cases hh : h[b]? with
  | none => rw [hh] at h1; cases h1
  | some o =>
    rw [hh] at h1
    cases o with
    | map a c => injection h1 with h1; injection h1 with e1 e2; subst e1; subst e2; rfl
    | _ => cases h1
theorem Only.map {h : Heap} {b : Nat} {es : Array MapEntry} {cl : Nat} (h1 : mp h b = some (es, cl)) (es' : Array MapEntry) (cl' : Nat) : Only [b] h (h.setIfInBounds b (.map es' cl')) := by
  have ho := mp_obj h1
  refine ⟨by simp, fun j hj hb => ?_, fun a => ?_⟩
  · rw [Array.getElem?_setIfInBounds, if_neg (fun e => hb (by simp [e]))]
  · unfold fz
    rw [Array.getElem?_setIfInBounds]
    by_cases e : b = a.block
    · subst e
      rw [if_pos rfl, if_pos (Array.getElem?_eq_some_iff.1 ho).1, ho]
    · rw [if_neg e]
theorem mp_set {h : Heap} {b : Nat} {es : Array MapEntry} {cl : Nat} (h1 : mp h b = some (es, cl)) (es' : Array MapEntry) (cl' : Nat) : mp (h.setIfInBounds b (.map es' cl')) b = some (es', cl') := by
  unfold mp
  rw [Array.getElem?_setIfInBounds, if_pos rfl, if_pos (Array.getElem?_eq_some_iff.1 (mp_obj h1)).1]
/-- which place a key has -/
theorem findNow_int {k : IntKind} {x : Int} : ∀ (es : List MapEntry) (m : List (Int × Value)) (i : Nat), es.map (fun e => (e.key, e.val)) = m.map (fun p => (Value.int k p.1, p.2)) →
    (Instr.findNow (.int k) (.int k x) es i = some none ∧ m.lookup x = none ∧ ∀ p ∈ m, p.1 ≠ x) ∨
    ∃ j v m1 m2, Instr.findNow (.int k) (.int k x) es i = some (some (i + j, v)) ∧ m = m1 ++ (x, v) :: m2 ∧ m1.length = j ∧ m.lookup x = some v ∧ (∀ p ∈ m1, p.1 ≠ x)
  | [], [], i, _ => Or.inl ⟨rfl, rfl, by simp⟩
  | [], _ :: _, _, h => by simp at h
  | _ :: _, [], _, h => by simp at h
  | e :: es, p :: m, i, h => by
    simp only [List.map_cons, List.cons.injEq, Prod.mk.injEq] at h
    obtain ⟨⟨h1, h2⟩, h3⟩ := h
    by_cases hx : x = p.1
    · subst hx
      refine Or.inr ⟨0, p.2, [], m, ?_, rfl, rfl, ?_, by simp⟩
      · simp [Instr.findNow, Instr.sameNow, h1, h2]
      · simp [List.lookup]
    · have hs : Instr.sameNow (.int k) (.int k x) e.key = some false := by simp [Instr.sameNow, h1, hx]
      rcases findNow_int es m (i + 1) h3 with ⟨a, b, c⟩ | ⟨j, v, m1, m2, a, b, c, d, f⟩
      · refine Or.inl ⟨?_, ?_, ?_⟩
        · simp only [Instr.findNow, hs]
          exact a
        · simp only [List.lookup, show (x == p.1) = false by simp [hx]]
          exact b
        · intro q hq
          rcases List.mem_cons.1 hq with rfl | hq
          · exact fun e => hx e.symm
          · exact c q hq
      · refine Or.inr ⟨j + 1, v, p :: m1, m2, ?_, by rw [b]; rfl, by simp [c], ?_, ?_⟩
        · simp only [Instr.findNow, hs]
          rw [a]
          congr 3
          omega
        · simp only [List.lookup, show (x == p.1) = false by simp [hx]]
          exact d
        · intro q hq
          rcases List.mem_cons.1 hq with rfl | hq
          · exact fun e => hx e.symm
          · exact f q hq
theorem look_map {h : Heap} {b : Nat} {k : IntKind} {m : List (Int × Value)} {x : Int} {K : Option (Nat × Value) → Prop} (H : MapM h b k m)
    (hN : m.lookup x = none → K none) (hS : ∀ i v, m.lookup x = some v → K (some (i, v))) : lookK h (some b) k k x K := by
  obtain ⟨es, cl, h1, h2, h3, -⟩ := H
  refine ⟨es, cl, h1, ?_⟩
  rcases findNow_int (x := x) es.toList m 0 h2 with ⟨a, c, -⟩ | ⟨j, v, m1, m2, a, c, d, e, -⟩
  · exact ⟨_, a, hN c⟩
  · exact ⟨_, a, hS _ v e⟩
/-- a key's value set -/
def mset (m : List (Int × Value)) (x : Int) (v : Value) : List (Int × Value) := if (m.lookup x).isSome then m.map (fun p => if p.1 = x then (x, v) else p) else m ++ [(x, v)]
def mdel (m : List (Int × Value)) (x : Int) : List (Int × Value) := m.filter fun p => p.1 ≠ x
theorem lookup_append {m m' : List (Int × Value)} {x : Int} : (m ++ m').lookup x = (m.lookup x).or (m'.lookup x) := by
  induction m with
  | nil => simp [List.lookup]
  | cons p m ih =>
    simp only [List.cons_append, List.lookup]
    cases x == p.1 <;> simp [ih]
theorem mset_keys {m : List (Int × Value)} {x : Int} {v : Value} : (mset m x v).map (·.1) = if (m.lookup x).isSome then m.map (·.1) else m.map (·.1) ++ [x] := by
  unfold mset
  split
  · rw [List.map_map]
    apply List.map_congr_left
    intro p _
    simp only [Function.comp]
    split
    · next e => exact e.symm
    · rfl
  · simp
theorem lookup_none {m : List (Int × Value)} {x : Int} : m.lookup x = none ↔ x ∉ m.map (·.1) := by
  induction m with
  | nil => simp [List.lookup]
  | cons p m ih =>
    simp only [List.lookup, List.map_cons, List.mem_cons, not_or]
    by_cases h : x = p.1
    · subst h; simp
    · simp only [show (x == p.1) = false by simp [h]]
      rw [ih]
      exact ⟨fun a => ⟨h, a⟩, fun a => a.2⟩
theorem lookup_mset {m : List (Int × Value)} {x y : Int} {v : Value} : (mset m x v).lookup y = if y = x then some v else m.lookup y := by
  unfold mset
  split
  · next hs =>
    induction m with
    | nil => simp [List.lookup] at hs
    | cons p m ih =>
      simp only [List.map_cons, List.lookup]
      by_cases hp : p.1 = x
      · rw [if_pos hp]
        by_cases hy : y = x
        · subst hy
          simp
        · rw [if_neg hy]
          have e1 : (y == x) = false := by simp [hy]
          have e2 : (y == p.1) = false := by simp [hp, hy]
          simp only [e1, e2]
          clear ih hs
          induction m with
          | nil => rfl
          | cons r m ih2 =>
            simp only [List.map_cons, List.lookup]
            by_cases hr : r.1 = x
            · rw [if_pos hr]
              have e3 : (y == r.1) = false := by simp [hr, hy]
              simp only [e1, e3]
              exact ih2
            · rw [if_neg hr]
              cases y == r.1
              · exact ih2
              · rfl
      · rw [if_neg hp]
        have hs' : (m.lookup x).isSome := by
          simp only [List.lookup, show (x == p.1) = false by simp [Ne.symm hp]] at hs
          exact hs
        by_cases hy : y = p.1
        · subst hy
          simp [hp]
        · have e1 : (y == p.1) = false := by simp [hy]
          simp only [e1]
          exact ih hs'
  · next hs =>
    have hn : m.lookup x = none := by
      cases hh : m.lookup x with
      | none => rfl
      | some v => rw [hh] at hs; exact absurd rfl hs
    rw [lookup_append]
    by_cases hy : y = x
    · subst hy
      rw [hn, if_pos rfl]
      simp [List.lookup]
    · rw [if_neg hy]
      simp [List.lookup, show (y == x) = false by simp [hy]]
theorem lookup_mdel {m : List (Int × Value)} {x y : Int} : (mdel m x).lookup y = if y = x then none else m.lookup y := by
  unfold mdel
  induction m with
  | nil => simp [List.lookup]
  | cons p m ih =>
    by_cases hp : p.1 = x
    · rw [List.filter_cons_of_neg (by simp [hp]), ih]
      by_cases hy : y = x
      · rw [if_pos hy, if_pos hy]
      · rw [if_neg hy, if_neg hy]
        simp [List.lookup, show (y == p.1) = false by simp [hp, hy]]
    · rw [List.filter_cons_of_pos (by simp [hp])]
      simp only [List.lookup]
      by_cases hy : y = p.1
      · subst hy
        simp [hp]
      · simp only [show (y == p.1) = false by simp [hy]]
        exact ih
theorem mid_map {m1 m2 : List (Int × Value)} {x : Int} {v v' : Value} (h1 : ∀ p ∈ m1, p.1 ≠ x) (h2 : ∀ p ∈ m2, p.1 ≠ x) : (m1 ++ (x, v) :: m2).map (fun p => if p.1 = x then (x, v') else p) = m1 ++ (x, v') :: m2 := by
  have e : ∀ l : List (Int × Value), (∀ p ∈ l, p.1 ≠ x) → l.map (fun p => if p.1 = x then (x, v') else p) = l := by
    intro l hl
    conv => rhs; rw [← List.map_id l]
    apply List.map_congr_left
    intro p hp
    rw [if_neg (hl p hp)]
    rfl
  rw [List.map_append, List.map_cons, if_pos rfl, e m1 h1, e m2 h2]
theorem nodup_mid {m1 m2 : List (Int × Value)} {x : Int} {v : Value} (h : ((m1 ++ (x, v) :: m2).map (·.1)).Nodup) : (∀ p ∈ m1, p.1 ≠ x) ∧ ∀ p ∈ m2, p.1 ≠ x := by
  rw [List.map_append, List.map_cons] at h
  obtain ⟨h1, h2, h3⟩ := List.nodup_append.1 h
  refine ⟨fun p hp e => h3 p.1 (List.mem_map.2 ⟨p, hp, rfl⟩) x (by simp) e, fun p hp e => ?_⟩
  exact (List.nodup_cons.1 h2).1 (List.mem_map.2 ⟨p, hp, e⟩)
theorem map_found {h : Heap} {b : Nat} {k : IntKind} {m : List (Int × Value)} {x : Int} (H : MapM h b k m) :
    ∃ es cl, mp h b = some (es, cl) ∧ ((Instr.findNow (.int k) (.int k x) es.toList 0 = some none ∧ m.lookup x = none ∧ MapM (h.setIfInBounds b (.map es cl)) b k (mdel m x) ∧
        (∀ v, MapM (h.setIfInBounds b (.map (es.push { key := .int k x, val := v, born := cl }) (cl + 1))) b k (mset m x v))) ∨
      ∃ j v, Instr.findNow (.int k) (.int k x) es.toList 0 = some (some (j, v)) ∧ m.lookup x = some v ∧ Instr.sameBits 10000 (((es[j]?).map (·.key)).getD (.int k x)) (.int k x) = true ∧
        MapM (h.setIfInBounds b (.map (es.eraseIdxIfInBounds j) cl)) b k (mdel m x) ∧ (∃ e, es[j]? = some e ∧ e.key = .int k x ∧ e.val = v ∧ ∀ i e', es[i]? = some e' → e'.key = .int k x → i = j) ∧
        ∀ (g : MapEntry → MapEntry) v', (∀ e, es[j]? = some e → (g e).key = .int k x ∧ (g e).val = v' ∧ (g e).born = e.born) → MapM (h.setIfInBounds b (.map (es.modify j g) cl)) b k (mset m x v')) := by
  obtain ⟨es, cl, h1, h2, h3, h4, h5⟩ := H
  refine ⟨es, cl, h1, ?_⟩
  rcases findNow_int (x := x) es.toList m 0 h2 with ⟨a, c, c'⟩ | ⟨j, v, m1, m2, a, c, d, e, e'⟩
  · refine Or.inl ⟨a, c, ⟨es, cl, mp_set h1 _ _, ?_, ?_, h4, h5⟩, fun v => ⟨_, _, mp_set h1 _ _, ?_, ?_, ?_, ?_⟩⟩
    · rw [show mdel m x = m from List.filter_eq_self.2 fun p hp => by simp [c' p hp]]
      exact h2
    · rw [show mdel m x = m from List.filter_eq_self.2 fun p hp => by simp [c' p hp]]
      exact h3
    · unfold mset
      rw [if_neg (by simp [c])]
      simp [h2]
    · rw [mset_keys, if_neg (by simp [c])]
      refine List.nodup_append.2 ⟨h3, by simp, fun y hy z hz => ?_⟩
      simp at hz
      subst hz
      intro e
      subst e
      exact lookup_none.1 c hy
    · simp only [Array.toList_push, List.map_append]
      refine List.nodup_append.2 ⟨h4, by simp, fun y hy z hz => ?_⟩
      simp at hz
      subst hz
      obtain ⟨e0, he0, rfl⟩ := List.mem_map.1 hy
      have := h5 e0 he0
      omega
    · intro e0 he0
      simp only [Array.toList_push, List.mem_append, List.mem_singleton] at he0
      rcases he0 with he0 | rfl
      · have := h5 e0 he0
        omega
      · exact Nat.lt_succ_self _
  · subst c
    obtain ⟨n1, n2⟩ := nodup_mid h3
    rw [Nat.zero_add] at a
    have hjl : j < es.size := by
      have := congrArg List.length h2
      simp at this
      omega
    have hget : es.toList.map (fun e => (e.key, e.val)) = m1.map (fun p => (Value.int k p.1, p.2)) ++ (Value.int k x, v) :: m2.map (fun p => (Value.int k p.1, p.2)) := by
      rw [h2]
      simp
    have hj5 : (es.toList.map (fun e => (e.key, e.val)))[j]? = some (Value.int k x, v) := by
      rw [hget, List.getElem?_append_right (by simp [d])]
      simp [d]
    obtain ⟨e0, he0, hk0, hv0⟩ : ∃ e0, es[j]? = some e0 ∧ e0.key = .int k x ∧ e0.val = v := by
      rw [List.getElem?_map] at hj5
      cases hh : es[j]? with
      | none => simp [hh] at hj5
      | some e0 =>
        simp [hh] at hj5
        exact ⟨e0, rfl, hj5.1, hj5.2⟩
    have huniq : ∀ i e', es[i]? = some e' → e'.key = .int k x → i = j := by
      intro i e' hi hk
      have h6 := congrArg (fun l => l[i]?) hget
      simp only [List.getElem?_map] at h6
      rw [show es.toList[i]? = some e' by rw [← hi]; simp] at h6
      by_cases hlt : i < j
      · rw [List.getElem?_append_left (by simp; omega), List.getElem?_map] at h6
        cases hm : m1[i]? with
        | none => simp [hm] at h6
        | some p =>
          simp [hm, hk] at h6
          exact absurd h6.1.symm (n1 p (List.mem_of_getElem? hm))
      · by_cases hgt : j < i
        · rw [List.getElem?_append_right (by simp; omega)] at h6
          obtain ⟨r, hr⟩ : ∃ r, i = j + 1 + r := ⟨i - j - 1, by omega⟩
          subst hr
          simp only [List.length_map, d] at h6
          rw [show j + 1 + r - j = r + 1 by omega, List.getElem?_cons_succ, List.getElem?_map] at h6
          cases hm : m2[r]? with
          | none => simp [hm] at h6
          | some p =>
            simp [hm, hk] at h6
            exact absurd h6.1.symm (n2 p (List.mem_of_getElem? hm))
        · omega
    refine Or.inr ⟨j, v, a, e, ?_, ⟨_, _, mp_set h1 _ _, ?_, ?_, ?_, ?_⟩, ⟨e0, he0, hk0, hv0, huniq⟩, fun g v' hg => ⟨_, _, mp_set h1 _ _, ?_, ?_, ?_, ?_⟩⟩
    · rw [he0]
      simp [Instr.sameBits, hk0]
    · have hd : mdel (m1 ++ (x, v) :: m2) x = m1 ++ m2 := by
        unfold mdel
        rw [List.filter_append, List.filter_cons_of_neg (by simp), List.filter_eq_self.2 (fun p hp => by simp [n1 p hp]), List.filter_eq_self.2 (fun p hp => by simp [n2 p hp])]
      rw [hd]
      simp only [Array.eraseIdxIfInBounds, hjl, dif_pos, Array.toList_eraseIdx]
      rw [List.eraseIdx_eq_take_drop_succ, List.map_append, List.map_take, List.map_drop, hget]
      have l1 : (m1.map (fun p => (Value.int k p.1, p.2))).length = j := by simp [d]
      rw [← l1, List.take_left, List.drop_append, List.drop_eq_nil_of_le (by omega)]
      simp
    · have := h3.sublist (l₁ := (mdel (m1 ++ (x, v) :: m2) x).map (·.1)) (List.Sublist.map _ List.filter_sublist)
      exact this
    · simp only [Array.eraseIdxIfInBounds, hjl, dif_pos, Array.toList_eraseIdx]
      exact h4.sublist (List.Sublist.map _ (List.eraseIdx_sublist _ _))
    · simp only [Array.eraseIdxIfInBounds, hjl, dif_pos, Array.toList_eraseIdx]
      exact fun e1 he1 => h5 e1 ((List.eraseIdx_sublist _ _).subset he1)
    · unfold mset
      rw [if_pos (by simp [e]), mid_map n1 n2]
      rw [Array.toList_modify]
      apply List.ext_getElem?
      intro i
      rw [List.getElem?_map, List.getElem?_modify]
      have h6 := congrArg (fun l => l[i]?) hget
      simp only [List.getElem?_map] at h6
      by_cases hi : j = i
      · subst hi
        simp only [if_true]
        rw [show es.toList[j]? = some e0 by rw [← he0]; simp]
        obtain ⟨g1, g2, -⟩ := hg e0 he0
        rw [List.map_append, List.map_cons, List.getElem?_append_right (by simp [d])]
        simp [d, g1, g2]
      · simp only [hi, if_false]
        rw [List.map_append, List.map_cons]
        rw [show ((fun a : MapEntry => a) <$> es.toList[i]?) = es.toList[i]? by cases es.toList[i]? <;> rfl]
        rw [h6]
        by_cases hlt : i < j
        · rw [List.getElem?_append_left (by simp; omega), List.getElem?_append_left (by simp; omega)]
        · rw [List.getElem?_append_right (by simp; omega), List.getElem?_append_right (by simp; omega)]
          obtain ⟨r, hr⟩ : ∃ r, i = j + 1 + r := ⟨i - j - 1, by omega⟩
          subst hr
          simp only [List.length_map, d]
          rw [show j + 1 + r - j = r + 1 by omega]
          rfl
    · rw [mset_keys, if_pos (by simp [e])]
      exact h3
    · rw [show (es.modify j g).toList.map (·.born) = es.toList.map (·.born) from ?_]
      · exact h4
      · rw [Array.toList_modify]
        apply List.ext_getElem?
        intro i
        rw [List.getElem?_map, List.getElem?_modify, List.getElem?_map]
        by_cases hi : j = i
        · subst hi
          rw [show es.toList[j]? = some e0 by rw [← he0]; simp]
          simp [(hg e0 he0).2.2]
        · simp only [hi, if_false]
          cases es.toList[i]? <;> rfl
    · intro e1 he1
      rw [Array.toList_modify] at he1
      obtain ⟨i, hi⟩ := List.mem_iff_getElem?.1 he1
      rw [List.getElem?_modify] at hi
      by_cases hij : j = i
      · subst hij
        rw [show es.toList[j]? = some e0 by rw [← he0]; simp] at hi
        simp at hi
        subst hi
        rw [(hg e0 he0).2.2]
        exact h5 e0 (List.mem_of_getElem? (i := j) (by rw [← he0]; simp))
      · simp only [hij, if_false] at hi
        have : es.toList[i]? = some e1 := by
          cases hh : es.toList[i]? with
          | none => rw [hh] at hi; cases hi
          | some e2 => rw [hh] at hi; exact hi
        exact h5 e1 (List.mem_of_getElem? this)

theorem upd_map {h : Heap} {b : Nat} {k : IntKind} {m : List (Int × Value)} {x : Int} {v : Value} {K : Heap → Prop} (H : MapM h b k m) (hK : ∀ h', MapM h' b k (mset m x v) → Only [b] h h' → h'.size = h.size → K h') : updK h (some b) k k x v K := by
  obtain ⟨es, cl, h1, h2⟩ := map_found (x := x) H
  refine ⟨es, cl, h1, ?_⟩
  rcases h2 with ⟨a, c, d, e⟩ | ⟨j, v0, a, c, d, e, f, g⟩
  · exact ⟨_, a, hK _ (e v) (Only.map h1 _ _) (by simp)⟩
  · exact ⟨_, a, d, hK _ (g _ v fun e _ => ⟨rfl, rfl, rfl⟩) (Only.map h1 _ _) (by simp)⟩
theorem del_map {h : Heap} {b : Nat} {k : IntKind} {m : List (Int × Value)} {x : Int} {K : Heap → Prop} (H : MapM h b k m) (hK : ∀ h', MapM h' b k (mdel m x) → Only [b] h h' → h'.size = h.size → K h') : delK h (some b) k k x K := by
  obtain ⟨es, cl, h1, h2⟩ := map_found (x := x) H
  refine ⟨es, cl, h1, ?_⟩
  rcases h2 with ⟨a, c, d, e⟩ | ⟨j, v0, a, c, d, e, f, g⟩
  · exact ⟨_, a, hK _ d (Only.map h1 _ _) (by simp)⟩
  · exact ⟨_, a, hK _ e (Only.map h1 _ _) (by simp)⟩
/-- the entry of a key bears this stamp -/
def Stamp (h : Heap) (b : Nat) (k : IntKind) (x st : Int) : Prop := ∃ (es : Array MapEntry) (cl i : Nat) (e : MapEntry), mp h b = some (es, cl) ∧ es[i]? = some e ∧ e.key = .int k x ∧ (e.born : Int) = st
theorem ent_map {h : Heap} {b : Nat} {k : IntKind} {m : List (Int × Value)} {x : Int} {z : Value} {K : Value → Int → Heap → Prop} (H : MapM h b k m)
    (hK : ∀ v st h', v = (m.lookup x).getD z → MapM h' b k (mset m x v) → Stamp h' b k x st → Only [b] h h' → h'.size = h.size → K v st h') : entK h (some b) k k x z K := by
  obtain ⟨es, cl, h1, h2⟩ := map_found (x := x) H
  refine ⟨es, cl, h1, ?_⟩
  rcases h2 with ⟨a, c, d, e⟩ | ⟨j, v0, a, c, d, e, ⟨e0, f1, f2, f3, f4⟩, g⟩
  · refine ⟨_, a, hK _ _ _ (by rw [c]; rfl) (e z) ⟨_, _, es.size, { key := .int k x, val := z, born := cl }, mp_set h1 _ _, by simp, rfl, rfl⟩ (Only.map h1 _ _) (by simp)⟩
  · refine ⟨_, a, d, hK _ _ _ (by rw [c]; rfl) (g _ v0 fun e he => ?_) ⟨_, _, j, { e0 with key := .int k x }, mp_set h1 _ _, by simp [Array.getElem?_modify, f1], rfl, ?_⟩ (Only.map h1 _ _) (by simp)⟩
    · rw [f1] at he
      injection he with he
      subst he
      exact ⟨rfl, f3, rfl⟩
    · simp [f1]
theorem est_map {h : Heap} {b : Nat} {k : IntKind} {m : List (Int × Value)} {x st : Int} {v : Value} {K : Heap → Prop} (H : MapM h b k m) (S : Stamp h b k x st)
    (hK : ∀ h', MapM h' b k (mset m x v) → Only [b] h h' → h'.size = h.size → K h') : estK h (some b) st v K := by
  obtain ⟨es', cl', i, ei, s1, s2, s3, s4⟩ := S
  have H' := H
  obtain ⟨es, cl, h1, h2⟩ := map_found (x := x) H
  rw [h1] at s1
  injection s1 with s1
  injection s1 with s1 s1'
  subst s1 s1'
  refine ⟨es, cl, h1, ?_⟩
  rcases h2 with ⟨a, c, d, e⟩ | ⟨j, v0, a, c, d, e, ⟨e0, f1, f2, f3, f4⟩, g⟩
  · obtain ⟨es2, cl2, q1, q2, q3, q4, q5⟩ := H'
    rw [h1] at q1
    injection q1 with q1
    injection q1 with q1 q1'
    subst q1 q1'
    exfalso
    have h6 : (es.toList.map (fun e => (e.key, e.val)))[i]? = some (Value.int k x, ei.val) := by
      rw [List.getElem?_map, show es.toList[i]? = some ei by rw [← s2]; simp]
      simp [s3]
    rw [q2, List.getElem?_map] at h6
    cases hm : m[i]? with
    | none => simp [hm] at h6
    | some p =>
      simp [hm] at h6
      exact lookup_none.1 c (List.mem_map.2 ⟨p, List.mem_of_getElem? hm, h6.1⟩)
  · have hij := f4 i ei s2 s3
    subst hij
    obtain ⟨es2, cl2, q1, q2, q3, q4, q5⟩ := H'
    rw [h1] at q1
    injection q1 with q1
    injection q1 with q1 q1'
    subst q1 q1'
    have hlt : i < es.size := (Array.getElem?_eq_some_iff.1 s2).1
    refine ⟨i, ?_, hK _ (g _ v fun e he => ?_) (Only.map h1 _ _) (by simp)⟩
    · rw [Array.findIdx?_eq_some_iff_getElem]
      refine ⟨hlt, ?_, fun j hji => ?_⟩
      · have : es[i] = ei := (Array.getElem?_eq_some_iff.1 s2).2
        rw [this]
        simp [s4]
      · have hi' : es[i] = ei := (Array.getElem?_eq_some_iff.1 s2).2
        intro hb
        have hb : (es[j].born : Int) = st := by simpa using hb
        have : es[j].born = es[i].born := by
          rw [hi']
          omega
        have hnd := List.nodup_iff_pairwise_ne.1 q4
        rw [List.pairwise_map, List.pairwise_iff_getElem] at hnd
        exact hnd j i (by simp; omega) (by simpa using hlt) hji (by simpa using this)
    · rw [s2] at he
      injection he with he
      subst he
      exact ⟨s3, rfl, rfl⟩
theorem MapM.empty {h : Heap} {b : Nat} {k : IntKind} (h1 : mp h b = some (#[], 0)) : MapM h b k [] := ⟨#[], 0, h1, rfl, by simp, by simp, by simp⟩
end Go.Proofs.Ytipckkeaoncjiaa.Ev
