/- EVALUATOR, part 7: the game of a region's orders, and its checks. Conditions: the checks. -/
import Derived.Test.YtipckkeaoncjiaaEvG
namespace Go.Proofs.Ytipckkeaoncjiaa.Ev
open Go

def agreeF (f : FF) (a : Act) : Prop := ∀ t v, f t = some v → a.tmps.getD t undef = v
structure SOK (n : Nat) (w0 : World) (f : FF) (h : Heap) (a : Act) (w : World) : Prop where
  agree : agreeF f a
  defers : a.defers = []
  size : a.tmps.size = n
  same : Same w0 w
  heap : w.heap = h

def dstOk (n : Nat) (o : Oper) : Bool := match o.dst with | some d => Nat.blt d n | none => true

theorem agree_put {f : FF} {a : Act} {d : Option Nat} {v : Value} (h : agreeF f a) (hd : ∀ k, d = some k → k < a.tmps.size) : agreeF (fput f d v) (a.put d v) := by
  cases d with
  | none => exact h
  | some k =>
    intro t u hu
    simp only [fput] at hu
    by_cases e : t = k
    · subst e
      simp only [if_true, Option.some.injEq] at hu
      subst hu
      simp [Act.put, hd t rfl]
    · simp only [e, if_false] at hu
      have := h t u hu
      rw [← this]
      simp [Act.put, Array.getElem?_setIfInBounds_ne (Ne.symm e)]
theorem size_put (a : Act) (d : Option Nat) (v : Value) : (a.put d v).tmps.size = a.tmps.size := by cases d <;> simp [Act.put]
theorem defers_put (a : Act) (d : Option Nat) (v : Value) : (a.put d v).defers = a.defers := by cases d <;> rfl
theorem agr_eval {f : FF} {a : Act} (h : agreeF f a) (xs : Array Operand) : Agr (evF f) xs a.eval := by
  intro x _ v hv
  cases x with
  | tmp t => exact h t v hv
  | const u => simpa [evF, Act.eval] using hv
  | global g => simpa [evF, Act.eval] using hv
  | func g => simpa [evF, Act.eval] using hv
theorem SOK.put {n : Nat} {w0 : World} {f : FF} {h h' : Heap} {a : Act} {w w' : World} {o : Oper} (s : SOK n w0 f h a w) (hd : dstOk n o = true) (v : Value) (hs : Same w w') (hh : w'.heap = h') : SOK n w0 (fput f o.dst v) h' (a.put o.dst v) w' := by
  refine ⟨agree_put s.agree fun k hk => ?_, by rw [defers_put, s.defers], by rw [size_put, s.size], s.same.trans hs, hh⟩
  rw [s.size]
  simp only [dstOk, hk] at hd
  exact Nat.le_of_ble_eq_true hd

theorem wanted_yes {ops : Array Oper} {o : Oper} {f : FF} {a : Act} (h : agreeF f a) (g : gYes ops o f) : Region.wanted o (yielded ops a.tmps) = true := by
  unfold gYes at g
  unfold Region.wanted
  split at g
  · rename_i hg; simp [hg]
  · rename_i j want hg
    obtain ⟨d, hb, hv⟩ := g
    have := h d _ hv
    simp only [hg, yielded, hb, Option.bind_some]
    cases ht : a.tmps[d]? with
    | none => simp [ht, undef] at this
    | some u => simp [ht] at this; subst this; simp
theorem wanted_no {ops : Array Oper} {o : Oper} {f : FF} {a : Act} (h : agreeF f a) (g : gNo ops o f) : Region.wanted o (yielded ops a.tmps) = false := by
  unfold gNo at g
  unfold Region.wanted
  split at g
  · exact g.elim
  · rename_i j want hg
    obtain ⟨d, v, hb, hv, hne⟩ := g
    have := h d _ hv
    simp only [hg, yielded, hb, Option.bind_some]
    cases ht : a.tmps[d]? with
    | none => simp
    | some u =>
      simp [ht] at this; subst this
      cases u <;> simp
      rename_i b
      intro e; exact hne (by rw [e])

theorem SStep.wpOp {P : Program} {ops : Array Oper} {Q : Exit → Act → World → Prop} {i n : Nat} {w0 : World} {κ : FF → Heap → Prop} {κ' : Act → World → Prop} {f : FF} {h : Heap} {a : Act} {w : World}
    (H : SStep P ops i κ f h) (s : SOK n w0 f h a w) (hd : ∀ o : Oper, ops[i]? = some o → dstOk n o = true)
    (hk : ∀ f' h' a' w', SOK n w0 f' h' a' w' → κ f' h' → κ' a' w') : wpOp P ops Q i κ' a w := by
  obtain ⟨o, ho, H⟩ := H
  unfold Go.wpOp
  simp only [ho]
  have hdo := hd o ho
  rcases H with ⟨v, hl, _, hκ⟩ | ⟨_, hy, he⟩
  · rcases hl with ⟨hy, hv⟩ | ⟨hn, rfl⟩
    · rw [if_pos (wanted_yes s.agree hy)]
      refine .inl ?_
      unfold Oper.wp
      rw [hv a.eval (agr_eval s.agree _) w s.heap]
      exact hk _ _ _ _ (s.put hdo v (Same.refl w) s.heap) hκ
    · rw [if_neg (by rw [wanted_no s.agree hn]; simp)]
      exact hk _ _ _ _ (s.put hdo undef (Same.refl w) s.heap) hκ
  · rw [if_pos (wanted_yes s.agree hy)]
    refine .inl ?_
    unfold Oper.wp
    have := he a.eval (agr_eval s.agree _) w s.heap
    revert this
    generalize (execOp a.eval o).run P w = r
    intro this
    unfold EffR at this
    split at this
    · exact hk _ _ _ _ (s.put hdo _ this.1 rfl) this.2
    · exact hk _ _ _ _ (s.put hdo _ this.1 rfl) this.2
    · refine this.2.mono fun e w'' hh => ?_
      obtain ⟨v, rfl, hs, hK⟩ := hh
      exact hk _ _ _ _ (s.put hdo v (this.1.trans hs) rfl) hK
    · exact this.elim

/-- what the edges say, closed -/
structure AncOk (ops : Array Oper) (anc : Nat → Nat → Bool) : Prop where
  up : ∀ j o x, ops[j]? = some o → anc j x = true → ∃ e ∈ o.after, Region.binds .any e = true ∧ e.on < j ∧ (e.on = x ∨ anc e.on x = true)
  edge : ∀ j o, ops[j]? = some o → ∀ e ∈ o.after, Region.binds .any e = true → e.on < j ∧ anc j e.on = true

abbrev ids (rem : List (Nat × List Nat)) : List Nat := rem.map (·.1)
structure Cover (ops : Array Oper) (rem : List (Nat × List Nat)) (listed : Array Bool) : Prop where
  size : listed.size = ops.size
  mem : ∀ i, i < ops.size → (listed.getD i true = false ↔ i ∈ ids rem)
  lt : ∀ i ∈ ids rem, i < ops.size
def Down (ops : Array Oper) (rem : List (Nat × List Nat)) : Prop := ∀ j o, ops[j]? = some o → j ∉ ids rem → ∀ e ∈ o.after, Region.binds .any e = true → e.on ∉ ids rem

theorem anc_done {ops : Array Oper} {anc : Nat → Nat → Bool} (hA : AncOk ops anc) {rem : List (Nat × List Nat)} (hD : Down ops rem) :
    ∀ j, j < ops.size → j ∉ ids rem → ∀ x, anc j x = true → x ∉ ids rem := by
  intro j
  induction j using Nat.strongRecOn with
  | _ j ih =>
    intro hj hn x hx
    obtain ⟨o, ho⟩ : ∃ o, ops[j]? = some o := ⟨ops[j], by simp [hj]⟩
    obtain ⟨e, he, hb, hlt, hh⟩ := hA.up j o x ho hx
    have hon := hD j o ho hn e he hb
    rcases hh with rfl | hh
    · exact hon
    · exact ih e.on hlt (by omega) hon x hh

theorem ready_iff {ops : Array Oper} {rem : List (Nat × List Nat)} {listed : Array Bool} (hC : Cover ops rem listed) {i : Nat} (hi : i ∈ Region.ready .any ops listed) :
    i ∈ ids rem ∧ ∃ o, ops[i]? = some o ∧ ∀ e ∈ o.after, Region.binds .any e = true → e.on ∉ ids rem := by
  obtain ⟨h0, o, ho, hall⟩ := mem_ready.1 hi
  have hlt : i < ops.size := (Array.getElem?_eq_some_iff.1 ho).1
  refine ⟨(hC.mem i hlt).1 h0, o, ho, fun e he hb hmem => ?_⟩
  have h1 := hall e he hb
  have h2 := (hC.mem e.on (hC.lt _ hmem)).2 hmem
  have : e.on < listed.size := by rw [hC.size]; exact hC.lt _ hmem
  simp [this] at h1 h2
  rw [h1] at h2; simp at h2

abbrev drop1 (rem : List (Nat × List Nat)) (i : Nat) : List (Nat × List Nat) := rem.filter fun z => !(Nat.beq z.1 i)
theorem mem_drop1 {rem : List (Nat × List Nat)} {i k : Nat} : k ∈ ids (drop1 rem i) ↔ k ∈ ids rem ∧ k ≠ i := by
  simp only [List.mem_map, List.mem_filter]
  constructor
  · rintro ⟨z, ⟨hz, hb⟩, rfl⟩
    refine ⟨⟨z, hz, rfl⟩, fun e => ?_⟩
    rw [e] at hb; simp at hb
  · rintro ⟨⟨z, hz, rfl⟩, hne⟩
    refine ⟨z, ⟨hz, ?_⟩, rfl⟩
    cases hb : Nat.beq z.1 i with
    | false => rfl
    | true => exact absurd (Nat.eq_of_beq_eq_true hb) hne
theorem Cover.drop {ops : Array Oper} {rem : List (Nat × List Nat)} {listed : Array Bool} (hC : Cover ops rem listed) (i : Nat) (hi : i ∈ ids rem) : Cover ops (drop1 rem i) (listed.setIfInBounds i true) := by
  refine ⟨by simp [hC.size], fun k hk => ?_, fun k hk => hC.lt k (mem_drop1.1 hk).1⟩
  rw [mem_drop1]
  by_cases e : k = i
  · subst e
    have : k < listed.size := by rw [hC.size]; exact hk
    simp [this]
  · rw [getD_set_ne true (Ne.symm e), hC.mem k hk]; simp [e]
theorem Down.drop {ops : Array Oper} {rem : List (Nat × List Nat)} (hD : Down ops rem) {i : Nat} (hr : ∃ o, ops[i]? = some o ∧ ∀ e ∈ o.after, Region.binds .any e = true → e.on ∉ ids rem) : Down ops (drop1 rem i) := by
  intro j o ho hj e he hb hmem
  rw [mem_drop1] at hmem
  by_cases hji : j = i
  · subst hji
    obtain ⟨o', ho', hall⟩ := hr
    rw [ho] at ho'; simp only [Option.some.injEq] at ho'; subst ho'
    exact hall e he hb hmem.1
  · exact hD j o ho (fun h => hj (mem_drop1.2 ⟨h, hji⟩)) e he hb hmem.1

def Chain (ops : Array Oper) (anc : Nat → Nat → Bool) (rem : List (Nat × List Nat)) : Prop :=
  rem.Pairwise fun x y => effAt ops x.1 = true → effAt ops y.1 = true → anc y.1 x.1 = true
abbrev before1 (rem : List (Nat × List Nat)) (i : Nat) : List (Nat × List Nat) := rem.takeWhile fun z => !(Nat.beq z.1 i)
def Ord (ops : Array Oper) (anc : Nat → Nat → Bool) (A : List (List (Nat × List Nat))) : Prop :=
  ∀ rem ∈ A, ∀ i ∈ ids rem, effAt ops i = true → (∀ x ∈ rem, effAt ops x.1 = true → anc i x.1 = false) → ∃ alt ∈ A, (∀ x ∈ before1 alt i, effAt ops x.1 = false) ∧ Chain ops anc (drop1 alt i)

theorem before_pair {R : Nat × List Nat → Nat × List Nat → Prop} {rem : List (Nat × List Nat)} {i : Nat} {ji : List Nat} (h : rem.Pairwise R) (hm : (i, ji) ∈ rem) : ∀ x ∈ before1 rem i, R x (i, ji) := by
  intro x hx
  have hsplit := List.takeWhile_append_dropWhile (p := fun z : Nat × List Nat => !(Nat.beq z.1 i)) (l := rem)
  rw [← hsplit, List.pairwise_append] at h
  refine h.2.2 x hx (i, ji) ?_
  rw [← hsplit] at hm
  rcases List.mem_append.1 hm with hm | hm
  · exfalso
    revert hm
    generalize rem = l
    intro hm
    induction l with
    | nil => simp at hm
    | cons z l ih =>
      simp only [List.takeWhile_cons] at hm
      split at hm
      · rename_i hz
        rcases List.mem_cons.1 hm with rfl | hm
        · simp at hz
        · exact ih hm
      · simp at hm
  · exact hm

theorem chain_ord {ops : Array Oper} {anc : Nat → Nat → Bool} {rem : List (Nat × List Nat)} (h : Chain ops anc rem) : Ord ops anc [rem] := by
  intro r hr i hi he hmin
  simp only [List.mem_singleton] at hr; subst hr
  obtain ⟨⟨i', ji⟩, hm, rfl⟩ := List.mem_map.1 hi
  refine ⟨r, by simp, fun x hx => ?_, h.sublist List.filter_sublist⟩
  cases hb : effAt ops x.1 with
  | false => rfl
  | true =>
    have := before_pair h hm x hx hb he
    have hx' : x ∈ r := (List.takeWhile_sublist _).subset hx
    rw [hmin x hx' hb] at this; simp at this

theorem Look.uniq {P : Program} {ops : Array Oper} {o : Oper} {f : FF} {h : Heap} {a : Act} {w : World} {u v : Value} (ha : agreeF f a) (hw : w.heap = h) (h1 : Look P ops o f h u) (h2 : Look P ops o f h v) : u = v := by
  rcases h1 with ⟨y1, v1⟩ | ⟨n1, rfl⟩ <;> rcases h2 with ⟨y2, v2⟩ | ⟨n2, rfl⟩
  · have e1 := v1 a.eval (agr_eval ha _) w hw
    have e2 := v2 a.eval (agr_eval ha _) w hw
    rw [e1] at e2
    simpa using e2
  · have := wanted_yes ha y1; rw [wanted_no ha n2] at this; simp at this
  · have := wanted_yes ha y2; rw [wanted_no ha n1] at this; simp at this
  · rfl

theorem length_drop1 {rem : List (Nat × List Nat)} {i : Nat} (hi : i ∈ ids rem) : (drop1 rem i).length < rem.length := by
  obtain ⟨z, hz, rfl⟩ := List.mem_map.1 hi
  refine List.length_filter_lt_length_iff_exists.2 ⟨z, hz, ?_⟩
  simp

theorem before_drop {i k : Nat} (hk : k ≠ i) : ∀ {rem : List (Nat × List Nat)} {x : Nat × List Nat}, x ∈ before1 (drop1 rem k) i → x ∈ before1 rem i := by
  intro rem
  induction rem with
  | nil => intro x hx; simp at hx
  | cons y l ih =>
    intro x hx
    simp only [List.filter_cons] at hx
    simp only [List.takeWhile_cons]
    cases hq : Nat.beq y.1 k with
    | false =>
      simp only [hq, Bool.not_false, if_true, List.takeWhile_cons] at hx
      split
      · rename_i hp
        simp only [hp, if_true, List.mem_cons] at hx
        rcases hx with rfl | hx
        · simp
        · exact List.mem_cons_of_mem _ (ih hx)
      · rename_i hp
        simp [hp] at hx
    | true =>
      simp only [hq, Bool.not_true, Bool.false_eq_true, if_false] at hx
      have hyk := Nat.eq_of_beq_eq_true hq
      have hyi : Nat.beq y.1 i = false := by
        cases hb : Nat.beq y.1 i with
        | false => rfl
        | true => exact absurd (hyk.symm.trans (Nat.eq_of_beq_eq_true hb)) hk
      rw [if_pos (by simp [hyi])]
      exact List.mem_cons_of_mem _ (ih hx)

theorem drop_comm (rem : List (Nat × List Nat)) (i k : Nat) : drop1 (drop1 rem i) k = drop1 (drop1 rem k) i := by
  simp only [List.filter_filter]
  congr 1
  funext z
  exact Bool.and_comm _ _

theorem game {P : Program} {ops : Array Oper} {Q : Exit → Act → World → Prop} {K : FF → Heap → Prop} {anc : Nat → Nat → Bool} {n : Nat} {w0 : World} (hA : AncOk ops anc)
    (hd : ∀ (i : Nat) (o : Oper), ops[i]? = some o → dstOk n o = true) (hK : ∀ f h a w, SOK n w0 f h a w → K f h → Q .normal a w) :
    ∀ (fuel : Nat) (A : List (List (Nat × List Nat))) (listed : Array Bool) (f : FF) (h : Heap) (a : Act) (w : World),
      A ≠ [] → (∀ rem ∈ A, Good ops anc rem ∧ Cover ops rem listed ∧ Down ops rem ∧ rem.length ≤ fuel ∧ SA P ops K rem f h) → Ord ops anc A →
      SOK n w0 f h a w → wpAny P .any ops Q fuel listed a w := by
  have over : ∀ (A : List (List (Nat × List Nat))) (listed : Array Bool) (f : FF) (h : Heap) (a : Act) (w : World), A ≠ [] →
      (∀ rem ∈ A, Good ops anc rem ∧ Cover ops rem listed ∧ Down ops rem ∧ SA P ops K rem f h) → SOK n w0 f h a w → Region.ready .any ops listed = [] → Q .normal a w := by
    intro A listed f h a w hne hall hs hr
    obtain ⟨rem, hrem⟩ := List.exists_mem_of_ne_nil A hne
    obtain ⟨g, hC, hD, hSA⟩ := hall rem hrem
    cases rem with
    | nil => exact hK f h a w hs hSA
    | cons x rest =>
      exfalso
      have hx : x.1 ∈ ids (x :: rest) := by simp
      have hlt := hC.lt _ hx
      have : x.1 ∈ Region.ready .any ops listed := by
        rw [mem_ready]
        refine ⟨(hC.mem _ hlt).2 hx, ops[x.1], by simp [hlt], fun e he hb => ?_⟩
        have hed := hA.edge x.1 ops[x.1] (by simp [hlt]) e he hb
        have hnm : e.on ∉ ids (x :: rest) := by
          intro hm
          simp only [List.map_cons, List.mem_cons, List.mem_map] at hm
          rcases hm with hm | ⟨y, hy, hm⟩
          · omega
          · have := (List.pairwise_cons.1 g.lin).1 y hy
            rw [hm, hed.2] at this; simp at this
        have h1 : ¬ listed.getD e.on true = false := fun hh => hnm ((hC.mem e.on (by omega)).1 hh)
        have h2 : e.on < listed.size := by rw [hC.size]; omega
        simp [h2] at h1 ⊢
        exact h1
      rw [hr] at this; simp at this
  intro fuel
  induction fuel with
  | zero =>
    intro A listed f h a w hne hall hord hs
    have hr : Region.ready .any ops listed = [] := by
      obtain ⟨rem, hrem⟩ := List.exists_mem_of_ne_nil A hne
      obtain ⟨g, hC, hD, hl, hSA⟩ := hall rem hrem
      have h0 : rem = [] := List.eq_nil_of_length_eq_zero (by omega)
      cases hr : Region.ready .any ops listed with
      | nil => rfl
      | cons i l =>
        have := (ready_iff hC (i := i) (by rw [hr]; simp)).1
        rw [h0] at this; simp at this
    exact ⟨hr, over A listed f h a w hne (fun rem hrem => by obtain ⟨g, hC, hD, _, hSA⟩ := hall rem hrem; exact ⟨g, hC, hD, hSA⟩) hs hr⟩
  | succ fuel ih =>
    intro A listed f h a w hne hall hord hs
    refine ⟨fun hr => over A listed f h a w hne (fun rem hrem => by obtain ⟨g, hC, hD, _, hSA⟩ := hall rem hrem; exact ⟨g, hC, hD, hSA⟩) hs hr, fun i hi => ?_⟩
    have pulled : ∀ rem ∈ A, i ∈ ids rem ∧ (∃ o, ops[i]? = some o ∧ ∀ e ∈ o.after, Region.binds .any e = true → e.on ∉ ids rem) ∧ (∀ x ∈ rem, anc i x.1 = false) := by
      intro rem hrem
      obtain ⟨g, hC, hD, hl, hSA⟩ := hall rem hrem
      obtain ⟨hm, o, ho, hall'⟩ := ready_iff hC hi
      refine ⟨hm, ⟨o, ho, hall'⟩, fun x hx => ?_⟩
      cases hb : anc i x.1 with
      | false => rfl
      | true =>
        exfalso
        obtain ⟨e, he, hbe, hlt, hh⟩ := hA.up i o x.1 ho hb
        have hon := hall' e he hbe
        have hil : i < ops.size := (Array.getElem?_eq_some_iff.1 ho).1
        have hxm : x.1 ∈ ids rem := List.mem_map.2 ⟨x, hx, rfl⟩
        rcases hh with hh | hh
        · rw [hh] at hon; exact hon hxm
        · exact anc_done hA hD e.on (by omega) hon x.1 hh hxm
    have step : ∀ rem ∈ A, (effAt ops i = true → ∀ x ∈ before1 rem i, effAt ops x.1 = false) →
        SStep P ops i (fun f' h' => SA P ops K (drop1 rem i) f' h') f h := by
      intro rem hrem heff
      obtain ⟨g, hC, hD, hl, hSA⟩ := hall rem hrem
      obtain ⟨hm, hr, hanc⟩ := pulled rem hrem
      obtain ⟨⟨i', ji⟩, hm', rfl⟩ := List.mem_map.1 hm
      refine (pull rem f h g hm' hanc heff (fun j hj hjn x hx => ?_) hSA).mono fun f' h' hh => hh.2
      cases hb : anc j x.1 with
      | false => rfl
      | true =>
        exfalso
        obtain ⟨o, ho, _⟩ := g.self _ hm' j hj
        have hjl : j < ops.size := (Array.getElem?_eq_some_iff.1 ho).1
        exact anc_done hA hD j hjl hjn x.1 hb (List.mem_map.2 ⟨x, hx, rfl⟩)
    cases he : effAt ops i with
    | true =>
      obtain ⟨rem0, hrem0⟩ := List.exists_mem_of_ne_nil A hne
      obtain ⟨alt, halt, hbef, hch⟩ := hord rem0 hrem0 i (pulled rem0 hrem0).1 he (fun x hx _ => (pulled rem0 hrem0).2.2 x hx)
      obtain ⟨g, hC, hD, hl, hSA⟩ := hall alt halt
      obtain ⟨hm, hr, hanc⟩ := pulled alt halt
      refine (step alt halt fun _ => hbef).wpOp hs (fun o ho => hd i o ho) fun f' h' a' w' hs' hk => ?_
      refine ih [drop1 alt i] (listed.setIfInBounds i true) f' h' a' w' (by simp) ?_ (chain_ord hch) hs'
      intro rem hrem
      simp only [List.mem_singleton] at hrem; subst hrem
      exact ⟨g.sub List.filter_sublist, hC.drop i hm, hD.drop hr, by have := length_drop1 hm; omega, hk⟩
    | false =>
      obtain ⟨rem0, hrem0⟩ := List.exists_mem_of_ne_nil A hne
      obtain ⟨o, ho, H⟩ := step rem0 hrem0 (fun e => by rw [he] at e; simp at e)
      have hne' : isEff o.op = false := by simpa [effAt, ho] using he
      have H : ∃ v, Look P ops o f h v := by
        rcases H with ⟨v, h1, _, _⟩ | ⟨h1, _⟩
        · exact ⟨v, h1⟩
        · rw [hne'] at h1; simp at h1
      obtain ⟨v, hv⟩ := H
      have hone : SStep P ops i (fun f' h' => ∀ rem ∈ A, SA P ops K (drop1 rem i) f' h') f h := by
        refine ⟨o, ho, .inl ⟨v, hv, fun e => by rw [hne'] at e; simp at e, fun rem hrem => ?_⟩⟩
        obtain ⟨o', ho', H⟩ := step rem hrem (fun e => by rw [he] at e; simp at e)
        rw [ho] at ho'; simp only [Option.some.injEq] at ho'; subst ho'
        rcases H with ⟨u, h1, _, h3⟩ | ⟨h1, _⟩
        · rw [Look.uniq hs.agree hs.heap hv h1]; exact h3
        · rw [hne'] at h1; simp at h1
      refine hone.wpOp hs (fun o ho => hd i o ho) fun f' h' a' w' hs' hk => ?_
      refine ih (A.map fun rem => drop1 rem i) (listed.setIfInBounds i true) f' h' a' w' (by simpa using hne) ?_ ?_ hs'
      · intro rem' hrem'
        obtain ⟨rem, hrem, rfl⟩ := List.mem_map.1 hrem'
        obtain ⟨g, hC, hD, hl, hSA⟩ := hall rem hrem
        obtain ⟨hm, hr, hanc⟩ := pulled rem hrem
        exact ⟨g.sub List.filter_sublist, hC.drop i hm, hD.drop hr, by have := length_drop1 hm; omega, hk rem hrem⟩
      · intro rem' hrem' k hk1 hk2 hk3
        obtain ⟨rem, hrem, rfl⟩ := List.mem_map.1 hrem'
        have hki : k ≠ i := fun e => by rw [e, he] at hk2; simp at hk2
        obtain ⟨g, hC, hD, hl, hSA⟩ := hall rem hrem
        obtain ⟨alt, halt, hbef, hch⟩ := hord rem hrem k (mem_drop1.1 hk1).1 hk2 (fun x hx hxe => by
          have hxi : x.1 ≠ i := fun e => by rw [e, he] at hxe; simp at hxe
          obtain ⟨y, hy, hyx⟩ := List.mem_map.1 (mem_drop1.2 ⟨List.mem_map.2 ⟨x, hx, rfl⟩, hxi⟩)
          have hye : effAt ops y.1 = true := by rw [hyx]; exact hxe
          have := hk3 y hy hye
          rw [hyx] at this; exact this)
        refine ⟨drop1 alt i, List.mem_map.2 ⟨alt, halt, rfl⟩, fun x hx => hbef x (before_drop (Ne.symm hki) hx), ?_⟩
        rw [drop_comm]
        exact hch.sublist List.filter_sublist

end Go.Proofs.Ytipckkeaoncjiaa.Ev
