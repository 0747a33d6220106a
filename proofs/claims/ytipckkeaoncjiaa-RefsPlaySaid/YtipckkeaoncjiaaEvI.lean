/- EVALUATOR, part 8: what E says of a function's code, holds of its calls. Conditions: the checks (okCode), the table of functions (XOk), the model's own mode of orders. -/
import Derived.Test.YtipckkeaoncjiaaEvH
namespace Go.Proofs.Ytipckkeaoncjiaa.Ev
open Go

def pwB {α : Type} (r : α → α → Bool) : List α → Bool
  | [] => true
  | x :: l => l.all (r x) && pwB r l
theorem pw_spec {α : Type} {r : α → α → Bool} : ∀ {l : List α}, pwB r l = true → l.Pairwise fun x y => r x y = true := by
  intro l
  induction l with
  | nil => intro _; exact List.Pairwise.nil
  | cons x l ih =>
    intro h
    simp only [pwB, Bool.and_eq_true, List.all_eq_true] at h
    exact List.Pairwise.cons h.1 (ih h.2)

def ancOf (A : List Nat) (j x : Nat) : Bool := (A.getD j 0).testBit x
def ancB (ops : List Oper) (A : List Nat) : Bool :=
  ops.zipIdx.all fun (o, j) => Nat.blt (A.getD j 0) (2 ^ j) &&
    o.after.toList.all (fun e => !Region.binds .any e || (Nat.blt e.on j && ancOf A j e.on)) &&
    (List.range j).all fun x => !ancOf A j x || o.after.toList.any fun e => Region.binds .any e && (Nat.beq e.on x || ancOf A e.on x)
def pairC (ops : Array Oper) (anc : Nat → Nat → Bool) (x y : Nat × List Nat) : Bool := pairB ops anc x y && !anc x.1 y.1 && !Nat.beq x.1 y.1
def selfB (ops : Array Oper) (j : Nat) : Bool := match ops[j]? with | some o => offB ops o.dst o | none => false
def altB (ops : Array Oper) (anc : Nat → Nat → Bool) (alt : List (Nat × List Nat)) : Bool :=
  pwB (pairC ops anc) alt && alt.all (fun x => effAt ops x.1 || x.2.isEmpty) &&
  alt.all (fun y => y.2.all fun j => selfB ops j && alt.all fun x => Nat.beq x.1 j || anc j x.1 || anc x.1 y.1 || keepAt ops j x.1) &&
  (List.range ops.size).all (fun i => (ids alt).contains i) && (ids alt).all fun i => Nat.blt i ops.size
def ordB (ops : Array Oper) (anc : Nat → Nat → Bool) (A : List (List (Nat × List Nat))) : Bool :=
  A.all fun rem => rem.all fun i => !effAt ops i.1 || rem.any (fun x => effAt ops x.1 && anc i.1 x.1) ||
    A.any fun alt => (before1 alt i.1).all (fun x => !effAt ops x.1) && pwB (fun x y => !effAt ops x.1 || !effAt ops y.1 || anc y.1 x.1) (drop1 alt i.1)
def okAlts (ops : Array Oper) (alts : List (List (Nat × List Nat))) : Bool :=
  let A := (Region.before ops).toList
  ancB ops.toList A && !alts.isEmpty && alts.all (altB ops (ancOf A)) && ordB ops (ancOf A) alts

theorem anc_spec {ops : Array Oper} {A : List Nat} (h : ancB ops.toList A = true) : AncOk ops (ancOf A) := by
  have key : ∀ j o, ops[j]? = some o → A.getD j 0 < 2 ^ j ∧ (∀ e ∈ o.after, Region.binds .any e = true → e.on < j ∧ ancOf A j e.on = true) ∧
      ∀ x, x < j → ancOf A j x = true → ∃ e ∈ o.after, Region.binds .any e = true ∧ (e.on = x ∨ ancOf A e.on x = true) := by
    intro j o ho
    have := List.all_eq_true.1 h (o, j) (by
      rw [List.mem_iff_getElem?]
      exact ⟨j, by simp [List.getElem?_zipIdx, ho]⟩)
    simp only [Bool.and_eq_true, List.all_eq_true] at this
    obtain ⟨⟨h1, h2⟩, h3⟩ := this
    refine ⟨Nat.le_of_ble_eq_true h1, fun e he hb => ?_, fun x hx hax => ?_⟩
    · have := h2 e (by simpa using he)
      simp only [hb, Bool.not_true, Bool.false_or, Bool.and_eq_true] at this
      exact ⟨Nat.le_of_ble_eq_true this.1, this.2⟩
    · have := h3 x (by simpa using hx)
      simp only [hax, Bool.not_true, Bool.false_or, List.any_eq_true, Bool.and_eq_true, Bool.or_eq_true] at this
      obtain ⟨e, he, hb, hh⟩ := this
      exact ⟨e, by simpa using he, hb, hh.imp Nat.eq_of_beq_eq_true id⟩
  refine ⟨fun j o x ho hx => ?_, fun j o ho e he hb => (key j o ho).2.1 e he hb⟩
  obtain ⟨h1, h2, h3⟩ := key j o ho
  have hxj : x < j := by
    rcases Nat.lt_or_ge x j with hlt | hge
    · exact hlt
    · have hp : 2 ^ j ≤ 2 ^ x := Nat.pow_le_pow_right (by omega) hge
      have := Nat.testBit_lt_two_pow (i := x) (x := A.getD j 0) (by omega)
      unfold ancOf at hx
      rw [this] at hx; simp at hx
  obtain ⟨e, he, hb, hh⟩ := h3 x hxj hx
  exact ⟨e, he, hb, (h2 e he hb).1, hh⟩

theorem alt_spec {ops : Array Oper} {anc : Nat → Nat → Bool} {alt : List (Nat × List Nat)} (h : altB ops anc alt = true) :
    Good ops anc alt ∧ Cover ops alt (Array.replicate ops.size false) ∧ Down ops alt ∧ alt.length ≤ ops.size := by
  simp only [altB, Bool.and_eq_true, List.all_eq_true] at h
  obtain ⟨⟨⟨⟨h1, h2⟩, h3⟩, h4⟩, h5⟩ := h
  have h1 := pw_spec h1
  have hall : ∀ i, i < ops.size → i ∈ ids alt := fun i hi => by
    have := h4 i (List.mem_range.2 hi)
    exact List.contains_iff_mem.1 this
  have hlt : ∀ i ∈ ids alt, i < ops.size := fun i hi => Nat.le_of_ble_eq_true (h5 i hi)
  have hnd : (ids alt).Nodup := by
    rw [List.nodup_iff_pairwise_ne, List.pairwise_map]
    refine h1.imp fun {x y} hxy e => ?_
    simp [pairC, e] at hxy
  refine ⟨⟨hnd, h1.imp fun {x y} hxy => ?_, fun x hx he => ?_, fun y hy j hj x hx hne => ?_, fun y hy j hj => ?_, h1.imp fun {x y} hxy => ?_⟩, ⟨by simp, fun i hi => ?_, hlt⟩, fun j o ho hj => ?_, ?_⟩
  · simp only [pairC, Bool.and_eq_true] at hxy; exact hxy.1.1
  · have := h2 x hx
    simpa [he] using this
  · have := (h3 y hy j hj).2 x hx
    simp only [Bool.or_eq_true] at this
    rcases this with ((this | this) | this) | this
    · exact absurd (Nat.eq_of_beq_eq_true this) hne
    · exact .inl this
    · exact .inr (.inl this)
    · exact .inr (.inr this)
  · have hs := (h3 y hy j hj).1
    unfold selfB at hs
    split at hs
    · rename_i o ho; exact ⟨o, ho, hs⟩
    · simp at hs
  · simp only [pairC, Bool.and_eq_true, Bool.not_eq_true'] at hxy; exact hxy.1.2
  · simp [hall i hi, hi]
  · exact absurd (hall j (Array.getElem?_eq_some_iff.1 ho).1) hj
  · have : (ids alt).length ≤ (List.range ops.size).length := hnd.length_le_of_subset fun i hi => by simpa using hlt i hi
    simpa using this

theorem ord_spec {ops : Array Oper} {anc : Nat → Nat → Bool} {A : List (List (Nat × List Nat))} (h : ordB ops anc A = true) : Ord ops anc A := by
  intro rem hrem i hi he hmin
  obtain ⟨x, hx, rfl⟩ := List.mem_map.1 hi
  have := List.all_eq_true.1 (List.all_eq_true.1 h rem hrem) x hx
  simp only [he, Bool.not_true, Bool.false_or, Bool.or_eq_true, List.any_eq_true, Bool.and_eq_true] at this
  rcases this with ⟨y, hy, h1, h2⟩ | ⟨alt, halt, h1, h2⟩
  · rw [hmin y hy h1] at h2; simp at h2
  · refine ⟨alt, halt, fun y hy => ?_, (pw_spec h2).imp fun {x y} hxy hx hy => ?_⟩
    · have := List.all_eq_true.1 h1 y hy
      simpa using this
    · simpa [hx, hy] using hxy

theorem stepE_sem {P : Program} {X : List (Nat × Ext)} (hX : XOk P X) {ops : Array Oper} {i : Nat} {o : Oper} {ρ : Fr} {h : Heap} {K : Fr → Heap → Prop} {κ : FF → Heap → Prop}
    (ho : ops[i]? = some o) (hk : ∀ ρ h, K ρ h → κ (get ρ) h) (H : stepE P X ops o ρ h K) : SStep P ops i κ (get ρ) h := by
  have run : ∀ ρ' : Fr, get ρ' = get ρ → gYes ops o (get ρ) → (opE P X o ρ' h fun v h' => K (put ρ' o.dst v) h') → SStep P ops i κ (get ρ) h := by
    intro ρ' hρ hy H
    unfold opE at H
    split at H
    · rename_i he
      refine ⟨o, ho, .inr ⟨he, hy, ?_⟩⟩
      have := effE_sound hX H
      rw [ev_get, hρ] at this
      exact this.mono fun v h' hh => by have := hk _ _ hh; rwa [get_put, hρ] at this
    · rename_i he
      obtain ⟨v, hv, hK⟩ := valE_sound H
      rw [ev_get, hρ] at hv
      refine ⟨o, ho, .inl ⟨v, .inl ⟨hy, hv⟩, fun e => by rw [he] at e; simp at e, ?_⟩⟩
      have := hk _ _ hK
      rwa [get_put, hρ] at this
  have skip : ∀ ρ' : Fr, get ρ' = get ρ → gNo ops o (get ρ) → K (put ρ' o.dst undef) h → SStep P ops i κ (get ρ) h := by
    intro ρ' hρ hn H
    refine ⟨o, ho, .inl ⟨undef, .inr ⟨hn, rfl⟩, fun _ => hn, ?_⟩⟩
    have := hk _ _ H
    rwa [get_put, hρ] at this
  unfold stepE guardE at H
  split at H
  · rename_i hg; exact run ρ rfl (by simp [gYes, hg]) H
  · rename_i j want hg
    split at H
    · exact H.elim
    · rename_i d hd
      split at H
      · rename_i b hb
        have hy : b = want → gYes ops o (get ρ) := fun e => by subst e; simp only [gYes, hg]; exact ⟨d, hd, hb⟩
        have hn : b ≠ want → gNo ops o (get ρ) := fun e => by simp only [gNo, hg]; exact ⟨d, _, hd, hb, fun h => e (by simpa using h)⟩
        split at H
        · rcases bcase_elim H with ⟨rfl, H⟩ | ⟨rfl, H⟩
          · exact run _ (get_lit hb) (hy rfl) H
          · exact skip _ (get_lit hb) (hn (by simp)) H
        · rcases bcase_elim H with ⟨rfl, H⟩ | ⟨rfl, H⟩
          · exact skip _ (get_lit hb) (hn (by simp)) H
          · exact run _ (get_lit hb) (hy rfl) H
      · rename_i vs hb
        exact skip ρ rfl (by simp only [gNo, hg]; exact ⟨d, _, hd, hb, by simp⟩) H
      · exact H.elim

theorem again_sem {P : Program} {ops : Array Oper} {ρ : Fr} {h : Heap} {K : Prop} : ∀ {js : List Nat}, again P ops ρ h js K → (∀ j ∈ js, SAgain P ops (get ρ) h j) ∧ K := by
  intro js
  induction js with
  | nil => intro H; exact ⟨by simp, H⟩
  | cons j js ih =>
    intro H
    unfold again at H
    split at H
    · exact H.elim
    rename_i o ho
    split at H
    · exact H.elim
    rename_i d hd
    split at H
    · exact H.elim
    rename_i v hv
    have yes : gYes ops o (get ρ) → (valE P o.op ρ h fun v' => v' = v ∧ again P ops ρ h js K) → (∀ k ∈ j :: js, SAgain P ops (get ρ) h k) ∧ K := by
      intro hy H
      obtain ⟨u, hu, rfl, hK⟩ := valE_sound H
      rw [ev_get] at hu
      have := ih hK
      refine ⟨fun k hk => ?_, this.2⟩
      rcases List.mem_cons.1 hk with rfl | hk
      · exact ⟨o, d, u, ho, hd, hv, .inl ⟨hy, hu⟩⟩
      · exact this.1 k hk
    have no : gNo ops o (get ρ) → (v = undef ∧ again P ops ρ h js K) → (∀ k ∈ j :: js, SAgain P ops (get ρ) h k) ∧ K := by
      rintro hn ⟨rfl, hK⟩
      have := ih hK
      refine ⟨fun k hk => ?_, this.2⟩
      rcases List.mem_cons.1 hk with rfl | hk
      · exact ⟨o, d, undef, ho, hd, hv, .inr ⟨hn, rfl⟩⟩
      · exact this.1 k hk
    split at H
    · rename_i hg; exact yes (by simp [gYes, hg]) H
    · rename_i i want hg
      split at H
      · exact H.elim
      rename_i g hgd
      split at H
      · rename_i b hb
        have hy : b = want → gYes ops o (get ρ) := fun e => by subst e; simp only [gYes, hg]; exact ⟨g, hgd, hb⟩
        have hn : b ≠ want → gNo ops o (get ρ) := fun e => by simp only [gNo, hg]; exact ⟨g, _, hgd, hb, fun h => e (by simpa using h)⟩
        split at H
        · rcases bcase_elim H with ⟨rfl, H⟩ | ⟨rfl, H⟩
          · exact yes (hy rfl) H
          · exact no (hn (by simp)) H
        · rcases bcase_elim H with ⟨rfl, H⟩ | ⟨rfl, H⟩
          · exact no (hn (by simp)) H
          · exact yes (hy rfl) H
      · rename_i vs hb
        exact no (by simp only [gNo, hg]; exact ⟨g, _, hgd, hb, by simp⟩) H
      · exact H.elim

theorem evA_sem {P : Program} {X : List (Nat × Ext)} (hX : XOk P X) {ops : Array Oper} {K : Fr → Heap → Prop} {κ : FF → Heap → Prop} (hk : ∀ ρ h, K ρ h → κ (get ρ) h) :
    ∀ {alt : List (Nat × List Nat)} {ρ : Fr} {h : Heap}, evA P X ops alt ρ h K → SA P ops κ alt (get ρ) h := by
  intro alt
  induction alt with
  | nil => intro ρ h H; exact hk _ _ H
  | cons x alt ih =>
    intro ρ h H
    obtain ⟨i, js⟩ := x
    unfold evA at H
    split at H
    · exact H.elim
    rename_i o ho
    exact stepE_sem hX ho (fun ρ h hh => by
      have := again_sem hh
      exact ⟨this.1, ih this.2⟩) H
theorem evAs_sem {P : Program} {X : List (Nat × Ext)} {ops : Array Oper} {K : Fr → Heap → Prop} {ρ : Fr} {h : Heap} :
    ∀ {alts : List (List (Nat × List Nat))}, evAs P X ops alts ρ h K → ∀ alt ∈ alts, evA P X ops alt ρ h K := by
  intro alts
  induction alts with
  | nil => intro _ alt ha; simp at ha
  | cons a l ih =>
    intro H alt ha
    cases l with
    | nil => simp only [List.mem_singleton] at ha; subst ha; exact H
    | cons b l =>
      rcases List.mem_cons.1 ha with rfl | ha
      · exact H.1
      · exact ih H.2 alt ha

/-- an ending of a piece of code, seen from its frame and heap -/
def lift (n : Nat) (w0 : World) (K : Exit → Fr → Heap → Prop) : Exit → Act → World → Prop := fun e a w => ∃ ρ h, SOK n w0 (get ρ) h a w ∧ K e ρ h

theorem cut_get {L : List Nat} {ρ : Fr} : ∀ t v, get (cut L ρ) t = some v → get ρ t = some v := by
  intro t v
  induction L with
  | nil => intro h; simp [cut, get] at h
  | cons k L ih =>
    intro h
    simp only [cut] at h
    split at h
    · rename_i u hu
      simp only [get] at h
      split at h
      · rename_i hb; rw [← Nat.eq_of_beq_eq_true hb, ← h]; exact hu
      · exact ih h
    · exact ih h
theorem SOK.weaken {n : Nat} {w0 : World} {f g : FF} {h : Heap} {a : Act} {w : World} (s : SOK n w0 f h a w) (hg : ∀ t v, g t = some v → f t = some v) : SOK n w0 g h a w :=
  ⟨fun t v hv => s.agree t v (hg t v hv), s.defers, s.size, s.same, s.heap⟩
theorem cutO_get {q : Option (List Nat)} {ρ : Fr} : ∀ t v, get (cutO q ρ) t = some v → get ρ t = some v := by
  intro t v h
  unfold cutO at h
  split at h
  · exact cut_get t v h
  · exact h

def okCode (T : Hint) (n : Nat) : Code → Bool
  | .region id ops draw => ops.toList.all (dstOk n) && (!draw || (match aget T.alts id with | some ls => okAlts ops ls | none => false))
  | .seq a b => okCode T n a && okCode T n b
  | .cond _ a b => okCode T n a && okCode T n b
  | .block _ c => okCode T n c
  | .loop c => okCode T n c
  | _ => true

theorem wpList_cons {P : Program} {ops : Array Oper} {Q : Exit → Act → World → Prop} {i : Nat} {o : Oper} (ho : ops[i]? = some o) (rest : List Oper) (a : Act) (w : World) :
    wpOp P ops Q i (wpList P ops Q rest) a w → wpList P ops Q (o :: rest) a w := by
  intro h
  simp only [wpOp, ho] at h
  exact h

theorem evL_sound {P : Program} {X : List (Nat × Ext)} (hX : XOk P X) {ops : Array Oper} {n : Nat} {w0 : World} {K : Exit → Fr → Heap → Prop} :
    ∀ (l : List Oper) (ρ : Fr) (h : Heap) (a : Act) (w : World), (∀ o ∈ l, o ∈ ops.toList ∧ dstOk n o = true) → evL P X ops l ρ h (fun ρ' h' => K .normal ρ' h') → SOK n w0 (get ρ) h a w →
      wpList P ops (lift n w0 K) l a w := by
  intro l
  induction l with
  | nil => intro ρ h a w _ H s; exact wpList_nil ⟨ρ, h, s, H⟩
  | cons o rest ih =>
    intro ρ h a w hl H s
    obtain ⟨hm, hd⟩ := hl o (by simp)
    obtain ⟨i, hi⟩ := List.mem_iff_getElem?.1 hm
    have hi : ops[i]? = some o := by simpa using hi
    refine wpList_cons hi rest a w ?_
    have st : SStep P ops i (fun f h => ∃ ρ, get ρ = f ∧ evL P X ops rest ρ h (fun ρ' h' => K .normal ρ' h')) (get ρ) h :=
      stepE_sem hX hi (fun ρ h hh => ⟨ρ, rfl, hh⟩) H
    refine st.wpOp s (fun o' ho' => by rw [hi] at ho'; simp only [Option.some.injEq] at ho'; subst ho'; exact hd) fun f' h' a' w' s' ⟨ρ', hρ, hh⟩ => ?_
    subst hρ
    exact ih ρ' h' a' w' (fun o ho => hl o (by simp [ho])) hh s'

theorem E_sound {P : Program} {X : List (Nat × Ext)} {T : Hint} {S : Stop} (hS : ∀ κ ρ h, S κ ρ h → κ ρ h) (hX : XOk P X) (hmix : P.follows .mixedOrders = true) {n : Nat} :
    ∀ (c : Code), okCode T n c = true → ∀ (K : Exit → Fr → Heap → Prop) (ρ : Fr) (h : Heap), E P X T S c K ρ h → ∀ (a : Act) (w w0 : World), SOK n w0 (get ρ) h a w → c.wp P (lift n w0 K) a w := by
  intro c
  induction c with
  | skip => intro _ K ρ h H a w w0 s; exact wp_skip ⟨ρ, h, s, H⟩
  | region id ops draw =>
    intro hok K ρ h H a w w0 s
    simp only [okCode, Bool.and_eq_true, List.all_eq_true] at hok
    unfold E at H
    split at H
    · refine wp_region_list (evL_sound hX ops.toList ρ h a w (fun o ho => ⟨ho, hok.1 o ho⟩) H s)
    · split at H
      case h_2 => exact H.elim
      rename_i ls hls
      have hal : okAlts ops ls = true := by have := hok.2; simpa [hls] using this
      simp only [okAlts, Bool.and_eq_true, Bool.not_eq_true', List.all_eq_true] at hal
      obtain ⟨⟨⟨h1, h2⟩, h3⟩, h4⟩ := hal
      refine wp_region_any hmix ?_
      have s' : SOK n w0 (get ρ) h a { w with drawn := w.drawn + 1 } := ⟨s.agree, s.defers, s.size, s.same, s.heap⟩
      refine game (K := fun f h => ∃ ρ, get ρ = f ∧ K .normal ρ h) (anc_spec h1) (fun i o ho => hok.1 o (by have := Array.mem_of_getElem? ho; simpa using this))
        (fun f h a w hs ⟨ρ, hρ, hK⟩ => ⟨ρ, h, by rw [hρ]; exact hs, hK⟩) ops.size ls _ (get ρ) h a _ (by intro e; rw [e] at h2; simp at h2) (fun rem hrem => ?_) (ord_spec h4) s'
      obtain ⟨g, hC, hD, hl⟩ := alt_spec (h3 rem hrem)
      exact ⟨g, hC, hD, hl, evA_sem hX (fun ρ h hh => ⟨ρ, rfl, hh⟩) (evAs_sem H rem hrem)⟩
  | seq x y ihx ihy =>
    intro hok K ρ h H a w w0 s
    simp only [okCode, Bool.and_eq_true] at hok
    refine wp_seq (wp_mono (ihx hok.1 _ ρ h H a w w0 s) fun e a' w' hh => ?_)
    obtain ⟨ρ', h', s', hK⟩ := hh
    cases e with
    | normal =>
      simp only [seqN] at hK
      split at hK
      · exact ihy hok.2 K _ h' (hS _ _ _ hK) a' w' w0 (s'.weaken cut_get)
      · exact ihy hok.2 K _ h' hK a' w' w0 s'
    | _ => exact ⟨ρ', h', s', hK⟩
  | cond c x y ihx ihy =>
    intro hok K ρ h H a w w0 s
    simp only [okCode, Bool.and_eq_true] at hok
    unfold E at H
    split at H
    case h_2 => exact H.elim
    rename_i t ht
    have hc : a.eval c = .bool t := by
      rw [ev_get] at ht
      exact agr_eval s.agree #[c] c (by simp) _ ht
    refine wp_cond hc ?_
    rcases bcase_elim H with ⟨rfl, H⟩ | ⟨rfl, H⟩
    · exact ihx hok.1 K ρ h H a w w0 s
    · exact ihy hok.2 K ρ h H a w w0 s
  | block id c ih =>
    intro hok K ρ h H a w w0 s
    refine wp_block (wp_mono (ih hok _ ρ h H a w w0 s) fun e a' w' hh => ?_)
    obtain ⟨ρ', h', s', hK⟩ := hh
    cases e with
    | exit i =>
      simp only [Exit.inBlock]
      by_cases e : i = id
      · subst e; simp only [blockN, Nat.beq_refl] at hK; rw [if_pos rfl]; exact ⟨ρ', h', s', hK⟩
      · have hb : Nat.beq i id = false := by
          cases hb : Nat.beq i id with
          | false => rfl
          | true => exact absurd (Nat.eq_of_beq_eq_true hb) e
        simp only [blockN, hb] at hK; rw [if_neg e]; exact ⟨ρ', h', s', hK⟩
    | _ => exact ⟨ρ', h', s', hK⟩
  | loop c ih =>
    intro hok K ρ h H a w w0 s
    obtain ⟨m, H⟩ := H
    refine wp_loop_rounds m ?_
    have key : ∀ (m : Nat) (ρ : Fr) (h : Heap) (a : Act) (w : World), loopN S (E P X T S c) (cutQ T c) K m ρ h → SOK n w0 (get ρ) h a w → Code.rounds P c (lift n w0 K) m a w := by
      intro m
      induction m with
      | zero => intro ρ h a w H _; exact H.elim
      | succ m ihm =>
        intro ρ h a w H s
        rw [rounds_succ]
        refine wp_mono (ih hok _ ρ h H a w w0 s) fun e a' w' hh => ?_
        obtain ⟨ρ', h', s', hK⟩ := hh
        cases e with
        | normal => exact ihm _ h' a' w' (hS _ _ _ hK) (s'.weaken cutO_get)
        | _ => exact ⟨ρ', h', s', hK⟩
    exact key m _ h a w (hS _ _ _ H) (s.weaken cutO_get)
  | exit id => intro _ K ρ h H a w w0 s; exact wp_exit ⟨ρ, h, s, H⟩
  | ret => intro _ K ρ h H a w w0 s; exact wp_ret ⟨ρ, h, s, H⟩
  | label l => intro _ K ρ h H a w w0 s; exact wp_label ⟨ρ, h, s, H⟩
  | rangeFunc => intro _ K ρ h H; exact H.elim
  | scope => intro _ K ρ h H; exact H.elim
  | goto => intro _ K ρ h H; exact H.elim
  | refuse => intro _ K ρ h H; exact H.elim

def rv (a : Act) : ResultVar → Sem Value
  | .tmp t => pure (a.tmps.getD t undef)
  | .cell x t => do loadVar t (← asAddr (a.tmps.getD x undef))
theorem results_rv (fn : Func) (a : Act) : results fn a.tmps = (do let vs ← fn.results.mapM (rv a); pure (if h : vs.size = 1 then vs[0] else .tuple vs)) := by
  unfold results
  congr 1

theorem resE_sound {P : Program} {n : Nat} {w0 : World} {f : FF} {a : Act} {w : World} : ∀ {rs : List ResultVar} {ρ : Fr} {h : Heap} {κ : List Value → Prop}, resE P rs ρ h κ → SOK n w0 f h a w → get ρ = f →
    ∃ vs, κ vs ∧ (rs.mapM (rv a)).run P w = .ok vs w := by
  intro rs
  induction rs with
  | nil => intro ρ h κ H s hρ; exact ⟨[], H, by simp⟩
  | cons r rs ih =>
    intro ρ h κ H s hρ
    cases r with
    | tmp t =>
      obtain ⟨v, hv, H⟩ := opt_elim H
      obtain ⟨vs, hK, hr⟩ := ih H s hρ
      refine ⟨v :: vs, hK, ?_⟩
      have := s.agree t v (by rw [← hρ]; exact hv)
      simp only [List.mapM_cons, rv, Sem.run_bind, Sem.run_pure, Result.andThen_ok, hr, this]
    | cell x t =>
      simp only [resE] at H
      split at H
      case h_2 => exact H.elim
      rename_i p hp
      obtain ⟨v, hK1, hload⟩ := loadE_sound H
      obtain ⟨vs, hK, hr⟩ := ih hK1 s hρ
      refine ⟨v :: vs, hK, ?_⟩
      have hx := s.agree x _ (by rw [← hρ]; exact hp)
      have hl := hload w s.heap
      cases p with
      | none => simp [loadE] at H; split at H <;> (try split at H) <;> (try split at H) <;> (try split at H) <;> first | exact H.elim | skip
      | some b =>
        have hl' : (loadVar t b).run P w = .ok v w := by simpa [Instr.loadAt, Instr.sureAddr] using hl
        have ha : (asAddr (.pointer (some b))).run P w = .ok b w := rfl
        simp only [List.mapM_cons, rv, Sem.run_bind, hx, ha, Result.andThen_ok, hl', hr, Sem.run_pure]

theorem calls_of_E {P : Program} {X : List (Nat × Ext)} {T : Hint} {f : FuncId} {fn : Func} {c : Code} {args : List Value} {h : Heap} {K : Value → Heap → Prop} (hX : XOk P X) (hmix : P.follows .mixedOrders = true)
    (hf : P.funcs[f]? = some fn) (hb : fn.body = some c) (hok : okCode T fn.ntmps c = true) (hsz : Nat.ble args.length fn.ntmps = true)
    (H : E P X T S0 c (fin P fn.results.toList K) (args0 0 args) h) : CallsH P f args h K := by
  intro w hw
  have hsz := Nat.le_of_ble_eq_true hsz
  refine calls_of_wp hf hb ?_
  have hag : ∀ (l : List Value) (i : Nat) (t : Nat) (v : Value), get (args0 i l) t = some v → i ≤ t ∧ l[t - i]? = some v := by
    intro l
    induction l with
    | nil => intro i t v h; simp [args0, get] at h
    | cons u l ih =>
      intro i t v h
      simp only [args0, get] at h
      split at h
      · rename_i hb
        have := Nat.eq_of_beq_eq_true hb
        subst this
        simp at h; subst h
        simp
      · rename_i hb
        have := ih (i + 1) t v h
        have e : t - i = (t - (i + 1)) + 1 := by omega
        exact ⟨by omega, by rw [e]; simpa using this.2⟩
  have s : SOK fn.ntmps w (get (args0 0 args)) h { tmps := args.toArray ++ Array.replicate (fn.ntmps - args.toArray.size) undef, defers := [] } w := by
    refine ⟨fun t v hv => ?_, rfl, by simp; omega, Same.refl w, hw⟩
    have := (hag args 0 t v hv).2
    have hlt : t < args.length := by
      have := List.getElem?_eq_some_iff.1 this
      simpa using this.1
    simp only [Nat.sub_zero] at this
    have e : (args.toArray ++ Array.replicate (fn.ntmps - args.toArray.size) undef)[t]? = some v := by
      rw [Array.getElem?_append_left (by simpa using hlt)]; simpa using this
    have e2 : args.toArray.size = args.length := rfl
    rw [e2] at e
    simp [e]
  refine wp_mono (E_sound (S := S0) (fun _ _ _ h => h) hX hmix c hok _ _ h H _ w w s) fun e a w' hh => ?_
  obtain ⟨ρ, h', s', hK⟩ := hh
  have fin' : ∀ {rs : List ResultVar}, fn.results.toList = rs → resE P rs ρ h' (fun vs => (match vs with | [v] => K v h' | vs => K (.tuple vs.toArray) h')) →
      a.defers = [] ∧ ∃ v, (results fn a.tmps).run P w' = .ok v w' ∧ ∃ u, Ending.returned v = .returned u ∧ Same w w' ∧ K u w'.heap := by
    rintro rs rfl hR
    obtain ⟨vs, hKv, hr⟩ := resE_sound hR s' rfl
    refine ⟨s'.defers, (if hh : vs.toArray.size = 1 then vs.toArray[0] else .tuple vs.toArray), ?_, _, rfl, s'.same, ?_⟩
    · rw [results_rv, Array.mapM_eq_mapM_toList]
      simp only [Sem.run_bind, Sem.run_map, hr, Result.andThen_ok, Sem.run_pure]
    · rw [s'.heap]
      match vs, hKv with
      | [], hKv => exact hKv
      | [v], hKv => exact hKv
      | u :: v :: r, hKv => simpa using hKv
  cases e with
  | normal => exact fin' rfl hK
  | ret => exact fin' rfl hK
  | _ => exact hK.elim

end Go.Proofs.Ytipckkeaoncjiaa.Ev
