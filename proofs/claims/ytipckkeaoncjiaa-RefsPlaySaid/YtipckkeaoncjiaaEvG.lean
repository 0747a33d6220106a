/- EVALUATOR, part 6: a region that draws its order: one order (or few) of its operations, with what was read read again, serves every order that its edges allow. Conditions: the checks of okAlts. -/
import Derived.Test.YtipckkeaoncjiaaEvF
namespace Go.Proofs.Ytipckkeaoncjiaa.Ev
open Go

abbrev FF := Nat → Option Value
def evF (f : FF) : Operand → Option Value
  | .tmp t => f t
  | .const v => some v
  | .global g => some (.pointer (some ⟨g, 0, none⟩))
  | .func f => some (.func (.func f) #[] #[])
def fput (f : FF) (d : Option Nat) (v : Value) : FF := match d with | some k => fun t => if t = k then some v else f t | none => f
theorem ev_get (ρ : Fr) : ev ρ = evF (get ρ) := by funext x; cases x <;> rfl
theorem get_put (ρ : Fr) (d : Option Nat) (v : Value) : get (put ρ d v) = fput (get ρ) d v := by
  cases d with
  | none => rfl
  | some k =>
    funext t
    simp only [put, get, fput]
    by_cases h : t = k
    · subst h; simp
    · have : Nat.beq k t = false := by
        cases hb : Nat.beq k t with
        | false => rfl
        | true => exact absurd (Nat.eq_of_beq_eq_true hb).symm h
      simp [this, h]
theorem get_lit {ρ : Fr} {d : Nat} {v : Value} (h : get ρ d = some v) : get ((d, v) :: ρ) = get ρ := by
  have := get_put ρ (some d) v
  rw [show put ρ (some d) v = (d, v) :: ρ from rfl] at this
  rw [this]
  funext t
  simp only [fput]
  split
  · rename_i e; rw [e, h]
  · rfl

def gYes (ops : Array Oper) (o : Oper) (f : FF) : Prop :=
  match o.guard with
  | none => True
  | some (j, want) => ∃ d, (ops[j]?).bind (·.dst) = some d ∧ f d = some (.bool want)
def gNo (ops : Array Oper) (o : Oper) (f : FF) : Prop :=
  match o.guard with
  | none => False
  | some (j, want) => ∃ d v, (ops[j]?).bind (·.dst) = some d ∧ f d = some v ∧ v ≠ .bool want
/-- an operation that leaves the heap alone, or is passed over -/
def Look (P : Program) (ops : Array Oper) (o : Oper) (f : FF) (h : Heap) (v : Value) : Prop :=
  (gYes ops o f ∧ Val P o (evF f) h v) ∨ (gNo ops o f ∧ v = undef)
def SStep (P : Program) (ops : Array Oper) (i : Nat) (κ : FF → Heap → Prop) (f : FF) (h : Heap) : Prop :=
  ∃ o, ops[i]? = some o ∧
    ((∃ v, Look P ops o f h v ∧ (isEff o.op = true → gNo ops o f) ∧ κ (fput f o.dst v) h) ∨
     (isEff o.op = true ∧ gYes ops o f ∧ Eff P o (evF f) h fun v h' => κ (fput f o.dst v) h'))
def SAgain (P : Program) (ops : Array Oper) (f : FF) (h : Heap) (j : Nat) : Prop :=
  ∃ o d v, ops[j]? = some o ∧ o.dst = some d ∧ f d = some v ∧ Look P ops o f h v
def SA (P : Program) (ops : Array Oper) (K : FF → Heap → Prop) : List (Nat × List Nat) → FF → Heap → Prop
  | [], f, h => K f h
  | (i, js) :: r, f, h => SStep P ops i (fun f' h' => (∀ j ∈ js, SAgain P ops f' h' j) ∧ SA P ops K r f' h') f h

theorem SStep.mono {P : Program} {ops : Array Oper} {i : Nat} {κ κ' : FF → Heap → Prop} {f : FF} {h : Heap} (H : SStep P ops i κ f h) (hk : ∀ f h, κ f h → κ' f h) : SStep P ops i κ' f h := by
  obtain ⟨o, ho, H⟩ := H
  refine ⟨o, ho, H.imp (fun ⟨v, h1, h2, h3⟩ => ⟨v, h1, h2, hk _ _ h3⟩) (fun ⟨h1, h2, h3⟩ => ⟨h1, h2, h3.mono fun v h' => hk _ _⟩)⟩

/-- a slot that an operation does not look at -/
def offB (ops : Array Oper) (d : Option Nat) (o : Oper) : Bool := match d with | some k => !(o.looksAt ops).contains k | none => true
theorem evF_off {ops : Array Oper} {o : Oper} {f : FF} {d : Option Nat} {v : Value} (h : offB ops d o = true) : ∀ x ∈ o.op.operands, evF (fput f d v) x = evF f x := by
  intro x hx
  cases d with
  | none => rfl
  | some k =>
    cases x with
    | tmp t =>
      simp only [evF, fput]
      by_cases e : t = k
      · subst e
        have : t ∈ o.looksAt ops := List.mem_append_left _ (List.mem_filterMap.2 ⟨.tmp t, by simpa using hx, rfl⟩)
        simp [offB, this] at h
      · simp [e]
    | _ => rfl
theorem guard_off {ops : Array Oper} {o : Oper} {f : FF} {d : Option Nat} {v : Value} {j : Nat} {want : Bool} {g : Nat} (h : offB ops d o = true) (hg : o.guard = some (j, want)) (hb : (ops[j]?).bind (·.dst) = some g) : fput f d v g = f g := by
  cases d with
  | none => rfl
  | some k =>
    simp only [fput]
    by_cases e : g = k
    · subst e
      have : g ∈ o.looksAt ops := List.mem_append_right _ (by simp [hg, hb])
      simp [offB, this] at h
    · simp [e]
theorem gYes_off {ops : Array Oper} {o : Oper} {f : FF} {d : Option Nat} {v : Value} (h : offB ops d o = true) : gYes ops o (fput f d v) ↔ gYes ops o f := by
  unfold gYes
  split
  · rfl
  · rename_i j want hg
    constructor
    · rintro ⟨g, hb, hv⟩; rw [guard_off h hg hb] at hv; exact ⟨g, hb, hv⟩
    · rintro ⟨g, hb, hv⟩; exact ⟨g, hb, by rw [guard_off h hg hb]; exact hv⟩
theorem gNo_off {ops : Array Oper} {o : Oper} {f : FF} {d : Option Nat} {v : Value} (h : offB ops d o = true) : gNo ops o (fput f d v) ↔ gNo ops o f := by
  unfold gNo
  split
  · rfl
  · rename_i j want hg
    constructor
    · rintro ⟨g, u, hb, hv, hne⟩; rw [guard_off h hg hb] at hv; exact ⟨g, u, hb, hv, hne⟩
    · rintro ⟨g, u, hb, hv, hne⟩; exact ⟨g, u, hb, by rw [guard_off h hg hb]; exact hv, hne⟩
theorem Agr.congr {e e' : Operand → Option Value} {xs : Array Operand} {σ : Operand → Value} (h : ∀ x ∈ xs, e x = e' x) (H : Agr e xs σ) : Agr e' xs σ :=
  fun x hx v hv => H x hx v (by rw [h x hx]; exact hv)
theorem Val.off {P : Program} {ops : Array Oper} {o : Oper} {f : FF} {h : Heap} {d : Option Nat} {u v : Value} (ho : offB ops d o = true) : Val P o (evF (fput f d u)) h v ↔ Val P o (evF f) h v :=
  ⟨fun H σ hσ w hw => H σ (hσ.congr fun x hx => (evF_off ho x hx).symm) w hw, fun H σ hσ w hw => H σ (hσ.congr fun x hx => evF_off ho x hx) w hw⟩
theorem Eff.off {P : Program} {ops : Array Oper} {o : Oper} {f : FF} {h : Heap} {d : Option Nat} {u : Value} {K : Value → Heap → Prop} (ho : offB ops d o = true) (H : Eff P o (evF (fput f d u)) h K) : Eff P o (evF f) h K :=
  fun σ hσ w hw => H σ (hσ.congr fun x hx => (evF_off ho x hx).symm) w hw
theorem Look.off {P : Program} {ops : Array Oper} {o : Oper} {f : FF} {h : Heap} {d : Option Nat} {u v : Value} (ho : offB ops d o = true) : Look P ops o (fput f d u) h v ↔ Look P ops o f h v := by
  unfold Look; rw [gYes_off ho, gNo_off ho, Val.off ho]
theorem fput_comm (f : FF) {d e : Option Nat} (u v : Value) (h : ∀ k, d = some k → e ≠ some k) : fput (fput f d u) e v = fput (fput f e v) d u := by
  cases d with
  | none => rfl
  | some k =>
    cases e with
    | none => rfl
    | some l =>
      have hne : k ≠ l := fun e => h k rfl (by rw [e])
      funext t
      simp only [fput]
      by_cases h1 : t = l
      · subst h1; simp [Ne.symm hne]
      · simp [h1]

/-- far from one another: neither looks at what the other writes; they write to different slots -/
def farB (ops : Array Oper) (x y : Oper) : Bool := offB ops x.dst y && offB ops y.dst x && (match x.dst, y.dst with | some a, some b => !(Nat.beq a b) | _, _ => true)
theorem far_spec {ops : Array Oper} {x y : Oper} (h : farB ops x y = true) : offB ops x.dst y = true ∧ offB ops y.dst x = true ∧ ∀ k, x.dst = some k → y.dst ≠ some k := by
  simp only [farB, Bool.and_eq_true] at h
  refine ⟨h.1.1, h.1.2, fun k hk hy => ?_⟩
  rw [hk, hy] at h
  simp at h

def effAt (ops : Array Oper) (i : Nat) : Bool := match ops[i]? with | some o => isEff o.op | none => false
def farAt (ops : Array Oper) (i j : Nat) : Bool := match ops[i]?, ops[j]? with | some x, some y => farB ops x y | _, _ => false
/-- j's reading is not turned by x's writing -/
def keepAt (ops : Array Oper) (j x : Nat) : Bool := match ops[j]?, ops[x]? with
  | some oj, some ox => offB ops ox.dst oj && (match ox.dst, oj.dst with | some a, some b => !(Nat.beq a b) | _, _ => true)
  | _, _ => false

/-- x stands before y in an order -/
def pairB (ops : Array Oper) (anc : Nat → Nat → Bool) (x y : Nat × List Nat) : Bool :=
  anc y.1 x.1 || (effAt ops x.1 && effAt ops y.1) || (farAt ops x.1 y.1 && !effAt ops x.1 && (!effAt ops y.1 || y.2.contains x.1))

structure Good (ops : Array Oper) (anc : Nat → Nat → Bool) (rem : List (Nat × List Nat)) : Prop where
  nodup : (rem.map (·.1)).Nodup
  pair : rem.Pairwise fun x y => pairB ops anc x y = true
  empty : ∀ x ∈ rem, effAt ops x.1 = false → x.2 = []
  keep : ∀ y ∈ rem, ∀ j ∈ y.2, ∀ x ∈ rem, x.1 ≠ j → anc j x.1 = true ∨ anc x.1 y.1 = true ∨ keepAt ops j x.1 = true
  self : ∀ y ∈ rem, ∀ j ∈ y.2, ∃ o, ops[j]? = some o ∧ offB ops o.dst o = true
  lin : rem.Pairwise fun x y => anc x.1 y.1 = false

theorem Good.tail {ops : Array Oper} {anc : Nat → Nat → Bool} {x : Nat × List Nat} {rem : List (Nat × List Nat)} (g : Good ops anc (x :: rem)) : Good ops anc rem :=
  ⟨by have := g.nodup; simp at this; exact this.2, by have := g.pair; rw [List.pairwise_cons] at this; exact this.2, fun y hy => g.empty y (by simp [hy]),
   fun y hy j hj z hz => g.keep y (by simp [hy]) j hj z (by simp [hz]), fun y hy => g.self y (by simp [hy]), by have := g.lin; rw [List.pairwise_cons] at this; exact this.2⟩
theorem Good.sub {ops : Array Oper} {anc : Nat → Nat → Bool} {rem rem' : List (Nat × List Nat)} (g : Good ops anc rem) (hs : rem'.Sublist rem) : Good ops anc rem' :=
  ⟨g.nodup.sublist (hs.map _), g.pair.sublist hs, fun y hy => g.empty y (hs.subset hy), fun y hy j hj z hz => g.keep y (hs.subset hy) j hj z (hs.subset hz), fun y hy => g.self y (hs.subset hy), g.lin.sublist hs⟩

theorem SAgain.keep {P : Program} {ops : Array Oper} {f : FF} {h : Heap} {j x : Nat} {ox : Oper} {v : Value} (hx : ops[x]? = some ox) (hk : keepAt ops j x = true) (H : SAgain P ops (fput f ox.dst v) h j) : SAgain P ops f h j := by
  obtain ⟨o, d, u, ho, hd, hu, hl⟩ := H
  simp only [keepAt, ho, hx, Bool.and_eq_true] at hk
  refine ⟨o, d, u, ho, hd, ?_, (Look.off hk.1).1 hl⟩
  rw [hd] at hk
  cases hxd : ox.dst with
  | none => rw [hxd] at hu; exact hu
  | some k =>
    rw [hxd] at hu hk
    have hne : d ≠ k := fun e => by subst e; simp at hk
    simpa [fput, hne] using hu

/-- WHATEVER IS READY MAY GO FIRST -/
theorem pull {P : Program} {ops : Array Oper} {K : FF → Heap → Prop} {anc : Nat → Nat → Bool} {i : Nat} {ji : List Nat} :
    ∀ (rem : List (Nat × List Nat)) (f : FF) (h : Heap), Good ops anc rem → (i, ji) ∈ rem →
      (∀ x ∈ rem, anc i x.1 = false) → (effAt ops i = true → ∀ x ∈ rem.takeWhile (fun z => !(Nat.beq z.1 i)), effAt ops x.1 = false) →
      (∀ j ∈ ji, j ∉ rem.map (·.1) → ∀ x ∈ rem, anc j x.1 = false) →
      SA P ops K rem f h →
      SStep P ops i (fun f' h' => (∀ j ∈ ji, j ∉ rem.map (·.1) → SAgain P ops f' h' j) ∧ SA P ops K (rem.filter fun z => !(Nat.beq z.1 i)) f' h') f h := by
  intro rem
  induction rem with
  | nil => intro f h _ hm; simp at hm
  | cons x rest ih =>
    intro f h g hm hanc heff hdc H
    obtain ⟨x, jx⟩ := x
    have hnd := g.nodup
    simp only [List.map_cons, List.nodup_cons] at hnd
    by_cases hxi : x = i
    · subst hxi
      have hji : jx = ji := by
        simp only [List.mem_cons, Prod.mk.injEq, true_and] at hm
        rcases hm with e | hm
        · exact e.symm
        · exact absurd (List.mem_map.2 ⟨_, hm, rfl⟩) hnd.1
      subst hji
      have hf : (((x, jx) :: rest).filter fun z => !(Nat.beq z.1 x)) = rest := by
        rw [List.filter_cons]
        simp only [Nat.beq_refl, Bool.not_true, Bool.false_eq_true, if_false]
        rw [List.filter_eq_self]
        intro z hz
        cases hb : Nat.beq z.1 x with
        | false => rfl
        | true => exact absurd (List.mem_map.2 ⟨z, hz, Nat.eq_of_beq_eq_true hb⟩) hnd.1
      rw [hf]
      exact SStep.mono H fun f' h' hh => ⟨fun j hj _ => hh.1 j hj, hh.2⟩
    · have hm' : (i, ji) ∈ rest := by
        simp only [List.mem_cons, Prod.mk.injEq] at hm
        rcases hm with ⟨e, _⟩ | hm
        · exact absurd e.symm hxi
        · exact hm
      have hbx : Nat.beq x i = false := by
        cases hb : Nat.beq x i with
        | false => rfl
        | true => exact absurd (Nat.eq_of_beq_eq_true hb) hxi
      have hp := (List.pairwise_cons.1 g.pair).1 _ hm'
      simp only [pairB, hanc (x, jx) (by simp), Bool.false_or, Bool.or_eq_true, Bool.and_eq_true, Bool.not_eq_true', List.contains_iff_mem] at hp
      have hp' : farAt ops x i = true ∧ effAt ops x = false ∧ (effAt ops i = true → x ∈ ji) := by
        rcases hp with ⟨h1, h2⟩ | ⟨⟨h1, h2⟩, h3⟩
        · have := heff h2 (x, jx) (by rw [List.takeWhile_cons]; simp [hbx])
          simp [this] at h1
        · refine ⟨h1, h2, fun he => ?_⟩
          rcases h3 with h3 | h3
          · rw [he] at h3; simp at h3
          · exact h3
      obtain ⟨hfar, hex, hre⟩ := hp'
      have hjx : jx = [] := g.empty (x, jx) (by simp) hex
      subst hjx
      obtain ⟨ox, hox, H⟩ := H
      have hnex : isEff ox.op = false := by simpa [effAt, hox] using hex
      have H : ∃ v, Look P ops ox f h v ∧ SA P ops K rest (fput f ox.dst v) h := by
        rcases H with ⟨v, h1, _, h3⟩ | ⟨h1, _⟩
        · exact ⟨v, h1, h3.2⟩
        · rw [hnex] at h1; simp at h1
      obtain ⟨v, hlook, hrest⟩ := H
      have step := ih (fput f ox.dst v) h g.tail hm' (fun z hz => hanc z (by simp [hz]))
        (fun he z hz => heff he z (by rw [List.takeWhile_cons]; simp [hbx]; exact .inr hz))
        (fun j hj hjn z hz => by
          by_cases hjx : j = x
          · subst hjx
            exact (List.pairwise_cons.1 g.lin).1 z hz
          · exact hdc j hj (by simp [hjx]; simpa using hjn) z (by simp [hz])) hrest
      obtain ⟨oi, hoi, step⟩ := step
      have hfar' : farB ops ox oi = true := by simpa [farAt, hox, hoi] using hfar
      obtain ⟨h1, h2, h3⟩ := far_spec hfar'
      have hfil : ((x, []) :: rest).filter (fun z => !(Nat.beq z.1 i)) = (x, []) :: rest.filter fun z => !(Nat.beq z.1 i) := by
        rw [List.filter_cons]; simp [hbx]
      have move : ∀ u h', Look P ops ox (fput f oi.dst u) h' v →
          (∀ j ∈ ji, j ∉ rest.map (·.1) → SAgain P ops (fput (fput f ox.dst v) oi.dst u) h' j) →
          SA P ops K (rest.filter fun z => !(Nat.beq z.1 i)) (fput (fput f ox.dst v) oi.dst u) h' →
          (∀ j ∈ ji, j ∉ ((x, []) :: rest).map (·.1) → SAgain P ops (fput f oi.dst u) h' j) ∧ SA P ops K (((x, []) :: rest).filter fun z => !(Nat.beq z.1 i)) (fput f oi.dst u) h' := by
        intro u h' hl hag hsa
        rw [fput_comm f v u h3] at hag hsa
        refine ⟨fun j hj hjn => ?_, ?_⟩
        · have hjx : x ≠ j := fun e => hjn (by simp [e])
          have hjr : j ∉ rest.map (·.1) := fun e => hjn (by simp only [List.map_cons, List.mem_cons]; exact .inr e)
          have hk : keepAt ops j x = true := by
            rcases g.keep (i, ji) hm j hj (x, []) (by simp) hjx with hk | hk | hk
            · have := hdc j hj hjn (x, []) (by simp)
              rw [this] at hk; simp at hk
            · have := (List.pairwise_cons.1 g.lin).1 _ hm'
              rw [this] at hk; simp at hk
            · exact hk
          exact SAgain.keep hox hk (hag j hj hjr)
        · rw [hfil]
          exact ⟨ox, hox, .inl ⟨v, hl, fun e => by rw [hnex] at e; simp at e, by simp, hsa⟩⟩
      refine ⟨oi, hoi, ?_⟩
      rcases step with ⟨u, s1, s2, s3⟩ | ⟨s1, s2, s3⟩
      · refine .inl ⟨u, (Look.off h1).1 s1, fun e => (gNo_off h1).1 (s2 e), move u h ((Look.off h2).2 hlook) s3.1 s3.2⟩
      · refine .inr ⟨s1, (gYes_off h1).1 s2, (Eff.off h1 s3).mono fun u h' hh => ?_⟩
        refine move u h' ?_ hh.1 hh.2
        have hxi' : x ∈ ji := hre (by simpa [effAt, hoi] using s1)
        obtain ⟨o, d, v', ho, hd, hv', hl⟩ := hh.1 x hxi' hnd.1
        rw [hox] at ho; simp only [Option.some.injEq] at ho; subst ho
        rw [fput_comm f v u h3, hd] at hv'
        simp only [fput, if_true, Option.some.injEq] at hv'
        subst hv'
        rw [fput_comm f v u h3] at hl
        obtain ⟨o', ho', hself⟩ := g.self (i, ji) hm x hxi'
        rw [hox] at ho'; simp only [Option.some.injEq] at ho'; subst ho'
        exact (Look.off hself).1 hl

end Go.Proofs.Ytipckkeaoncjiaa.Ev
