/- THE LAW OF A DEQUE's TURNS (DequeTurns). Conditions: none. -/
import Derived.Test.YtipckkeaoncjiaaDeqW3
namespace Go.Proofs.Ytipckkeaoncjiaa.Ev
open Go

section
variable {h0 : Heap} {w d m mc n : Nat} {p : Option Addr} {cap : Nat} {ks : List Int}

/-- nothing is under way any more -/
def Quiet (g : Gh) : Prop := g.o = none ∧ ∀ j, j < 3 → g.th j = none
theorem mtD_pos {h : Heap} {g : Gh} (D : Wd h0 h w d m mc n g) (ho : g.o ≠ none) : 0 < mtD g.o := by
  cases hA : g.o with
  | none => exact absurd hA ho
  | some A =>
    have S := D.sys
    rw [hA] at S
    have := S.phs
    simp only [mtD]
    omega
theorem mtD_posT {h : Heap} {g : Gh} (D : Wd h0 h w d m mc n g) {j : Nat} (ho : g.th j ≠ none) : 0 < mtD (g.th j) := by
  cases hA : g.th j with
  | none => exact absurd hA ho
  | some A =>
    have := D.sys.thp hA
    simp only [mtD]
    omega
theorem mtD_le (o : Option Dc) : mtD o ≤ 16 := by
  cases o with
  | none => simp [mtD]
  | some A => simp only [mtD]; omega

/-- behind it all: what is left -/
def Rest (took r : List Int) (v P : Nat) : Prop := List.Pairwise (· < ·) r ∧ ∀ x : Int, x ∈ r ↔ ((v : Int) ≤ x ∧ x ≤ (P : Int) ∧ x ∉ took)

theorem dturn_left {took : List Int} {P s : Nat} {ov : Value} {pu : Int} {tv : Nat → Value} {st : Nat → Nat} {tk : Value} {pp : Option Addr} {pc : Nat} (hP : P < 100000) (lo : h0.size ≤ m ∧ h0.size ≤ mc) (w2 : w ≠ m) (w3 : w ≠ mc) (s2 : s ≠ m) (s3 : s ≠ mc) :
    ∀ (gas v : Nat) (cs : List Int) (T : Nat) (r : List Int) (ops fails : Int) (h : Heap), P + 1 - v < gas → 1 ≤ v → v ≤ P + 1 → DW h d m mc 0 n cs ops fails → DS 0 n cs T r → T + r.length ≤ 200000 → Rest took r v P →
      At h w (cellsW m d ov pu tv st tk (.slice pp P pc)) → At h s (rowV (P + 1) fun j => .bool (decide ((j : Int) ∈ took))) → Only [] h0 h →
      F7.wL40 gas (some ⟨d, 0, none⟩) ⟨w, 0, none⟩ (some ⟨s, 0, none⟩) (P + 1) (P + 1) (v : Int) h (Lawful h0) := by
  intro gas
  induction gas with
  | zero => intro v cs T r ops fails h hg; omega
  | succ gas ih =>
    intro v cs T r ops fails h hg hv0 hv W S hT R Aw As O
    have hM : ∀ x ∈ [m, mc], h0.size ≤ x := by simpa using lo
    unfold F7.wL40 F7.JL40
    simp only [add_mk, Nat.zero_add]
    refine ldS_of (by rw [Aw.rd]; rfl) ?_
    by_cases hlt : v ≤ P
    · rw [decide_eq_true (by omega), bcase_true]
      refine ⟨by omega, by omega, ?_⟩
      rw [Int.toNat_natCast, Nat.mul_one]
      refine ldB_of (by rw [add_mk, Nat.zero_add, As.rd, rowV_get (by omega)]) ?_
      rw [show IntKind.wrap .i64 ((v : Int) + 1) = ((v + 1 : Nat) : Int) by rw [wrap_i64 (by omega) (by omega)]; omega]
      refine bcase_of (fun e => ?_) fun e => ?_
      · have e := of_decide_eq_true e
        refine ih (v + 1) cs T r ops fails h (by omega) (by omega) (by omega) W S hT ⟨R.1, fun x => ?_⟩ Aw As O
        rw [R.2 x]
        constructor
        · intro ⟨a, b, c⟩
          have : x ≠ (v : Int) := fun e' => c (e' ▸ e)
          exact ⟨by omega, b, c⟩
        · intro ⟨a, b, c⟩
          exact ⟨by omega, b, c⟩
      · have e := of_decide_eq_false e
        have hin : (v : Int) ∈ r := (R.2 v).2 ⟨by omega, by omega, e⟩
        refine stealrun W S (by omega) (fun e' => by rw [e'] at hin; cases hin) fun x q' eq h2 o2 f2 cs2 S2 A2 W2 O2 => ⟨_, _, rfl, ?_⟩
        subst eq
        obtain ⟨Rp, Rm⟩ := R
        have Rp := List.pairwise_cons.1 Rp
        have hx : x = (v : Int) := by
          have h1 := (Rm x).1 (by simp)
          rcases List.mem_cons.1 hin with h2 | h2
          · exact h2.symm
          · have := Rp.1 _ h2
            omega
        rw [Bool.not_true, bcase_false, wrap_u64 (by omega) (by omega), hx, bne_self_eq_false, bcase_false]
        refine ih (v + 1) cs2 (T + 1) q' o2 f2 h2 (by omega) (by omega) (by omega) W2 S2 (by simp at hT ⊢; omega) ⟨Rp.2, fun y => ?_⟩ (Aw.only O2 (by simp [w2, w3])) (As.only O2 (by simp [s2, s3])) (O.nil O2 hM)
        constructor
        · intro hy
          have := Rp.1 y hy
          obtain ⟨a, b, c⟩ := (Rm y).1 (List.mem_cons_of_mem _ hy)
          exact ⟨by omega, b, c⟩
        · intro ⟨a, b, c⟩
          rcases List.mem_cons.1 ((Rm y).2 ⟨by omega, b, c⟩) with h3 | h3
          · omega
          · exact h3
    · rw [decide_eq_false (by omega), bcase_false]
      have hr : r = [] := by
        cases r with
        | nil => rfl
        | cons x r' =>
          have := (R.2 x).1 (by simp)
          omega
      subst hr
      unfold F7.wk46 F7.Jk46
      refine poprun W S (by simp at hT ⊢; omega) (fun _ h1 o1 f1 cs1 S1 A1 W1 O1 => ⟨_, _, rfl, ?_⟩) fun x q' T' e => by simp at e
      rw [Bool.not_false, bcase_true]
      refine lenDS W1 S1 (by simp at hT ⊢; omega) fun h3 o3 W3 O3 => ldI_of rfl ⟨rfl, ?_⟩
      exact (O.nil O1 hM).nil O3 hM

theorem valsD_mem {P : Nat} {x : Int} : x ∈ valsD 1 P ↔ 1 ≤ x ∧ x ≤ (P : Int) := by
  simp only [valsD, List.mem_map, List.mem_range]
  constructor
  · rintro ⟨i, hi, rfl⟩
    omega
  · intro ⟨a, b⟩
    exact ⟨(x - 1).toNat, by omega, by omega⟩
theorem valsD_nodup (P : Nat) : (valsD 1 P).Nodup := by
  unfold valsD
  rw [List.nodup_iff_pairwise_ne, List.pairwise_map]
  exact List.nodup_range.imp fun {a b} hab => by omega

theorem Sys.idle {base n : Nat} {cs : List Int} {T E : Nat} {q hand : List Int} {th : Nat → Option Dc} (S : Sys base n cs T E q hand none th) : hand = [] := by
  have := S.own
  cases this
  rfl
theorem dturn_seen {took q : List Int} {tp pp : Option Addr} {tc pc P s T : Nat} {ov : Value} {pu : Int} {tv : Nat → Value} {st : Nat → Nat} {cs : List Int} {ops fails : Int} (hP : P < 100000) (hpl : took.length ≤ P) (lo : h0.size ≤ m ∧ h0.size ≤ mc) (w2 : w ≠ m) (w3 : w ≠ mc) (hs : s ≠ w) (sd : s ≠ d) (s2 : s ≠ m) (s3 : s ≠ mc) (hsp : s ∉ OwnB tp) (hs0 : h0.size ≤ s)
    (hperm : List.Perm (took ++ q) (valsD 1 P)) (hsort : List.Pairwise (· < ·) q) (hT : T + q.length ≤ 200000) :
    ∀ (gas i : Nat) (h : Heap), took.length - i < gas → i ≤ took.length → DW h d m mc 0 n cs ops fails → DS 0 n cs T q → At h w (cellsW m d ov pu tv st (.slice tp took.length tc) (.slice pp P pc)) → Win h h0.size tp took.length tc (took.map (.int .u64)) →
      At h s (rowV (P + 1) fun j => .bool (decide ((j : Int) ∈ took.take i))) → Only [] h0 h →
      F7.wL33 gas (some ⟨d, 0, none⟩) ⟨w, 0, none⟩ (some ⟨s, 0, none⟩) (P + 1) (P + 1) (i : Int) h (Lawful h0) := by
  have hnd : (took ++ q).Nodup := hperm.nodup_iff.2 (valsD_nodup _)
  have hsub := hperm.subset
  intro gas
  induction gas with
  | zero => intro i h hg; omega
  | succ gas ih =>
    intro i h hg hi W S Aw Wt As O
    unfold F7.wL33 F7.JL33
    simp only [add_mk, Nat.zero_add]
    refine ldS_of (by rw [Aw.rd]; rfl) ?_
    by_cases hlt : i < took.length
    · rw [decide_eq_true (by omega), bcase_true]
      refine ldS_of (by rw [Aw.rd]; rfl) ?_
      obtain ⟨a, ea, er⟩ := Wt.rd (j := i) (by simpa using hlt)
      rw [ea]
      refine ⟨by omega, by omega, ?_⟩
      rw [Int.toNat_natCast, Nat.mul_one, er]
      obtain ⟨x, hx⟩ : ∃ x, took[i]? = some x := ⟨took[i], List.getElem?_eq_getElem hlt⟩
      have hxm : x ∈ took := List.mem_of_getElem? hx
      obtain ⟨x0, x1⟩ := valsD_mem.1 (hsub (List.mem_append.2 (Or.inl hxm)))
      refine ldI_of (n := x) (by rw [List.getElem?_map, hx]; rfl) ?_
      rw [decide_eq_false (by omega), bcase_false]
      refine ldS_of (by rw [Aw.rd]; rfl) ?_
      rw [wrap_u64 (n := (P : Int)) (by omega) (by omega), decide_eq_false (by omega), bcase_false]
      obtain ⟨y, rfl⟩ : ∃ y : Nat, x = y := ⟨x.toNat, by omega⟩
      refine ⟨by omega, by omega, ?_⟩
      rw [Int.toNat_natCast, Nat.mul_one]
      refine ldB_of (by rw [add_mk, Nat.zero_add, As.rd, rowV_get (by omega)]) ?_
      have hnt : (y : Int) ∉ took.take i := by
        intro hy
        have h1 := (List.nodup_append.1 hnd).1
        rw [← List.take_append_drop i took] at h1
        have h3 : (y : Int) ∈ took.drop i := by
          refine List.mem_of_getElem? (i := 0) ?_
          rw [List.getElem?_drop, Nat.add_zero]
          exact hx
        exact (List.nodup_append.1 h1).2.2 _ hy _ h3 rfl
      rw [decide_eq_false hnt, bcase_false]
      refine ⟨by omega, by omega, ?_⟩
      rw [add_mk, add_mk, Nat.zero_add, Nat.add_zero]
      refine stK_at As (by rw [rowV_len]; omega) rfl fun h1 A1 O1 z1 => ?_
      rw [show IntKind.wrap .i64 ((i : Int) + 1) = ((i + 1 : Nat) : Int) by rw [wrap_i64 (by omega) (by omega)]; omega]
      have hne : ∀ b, b ≠ s → b ∉ [s] := fun b hb => by simpa using hb
      refine ih (i + 1) h1 (by omega) (by omega) (W.only O1 (hne _ sd.symm) (hne _ s2.symm) (hne _ s3.symm)) S (Aw.only O1 (hne _ hs.symm)) (Wt.only O1 fun b hb => hne _ fun e => hsp (e ▸ hb)) ?_ (O.nil O1 (by simpa using hs0))
      rw [rowV_set] at A1
      rw [show (rowV (P + 1) fun j => Value.bool (decide ((j : Int) ∈ took.take (i + 1)))) = rowV (P + 1) fun j => if j = y then Value.bool true else Value.bool (decide ((j : Int) ∈ took.take i)) from rowV_ext fun j hj => ?_]
      · exact A1
      · have et : took.take (i + 1) = took.take i ++ [(y : Int)] := by
          rw [List.take_add_one, hx]
          rfl
        rw [et]
        by_cases e : j = y
        · subst e
          simp
        · rw [if_neg e]
          have : ((j : Int) ∈ took.take i ++ [(y : Int)]) ↔ (j : Int) ∈ took.take i := by
            simp
            omega
          rw [decide_eq_decide.2 this]
    · rw [decide_eq_false (by omega), bcase_false]
      obtain rfl : i = took.length := by omega
      rw [List.take_length] at As
      unfold F7.wk39 F7.Jk39 F7.wk40 F7.Jk40
      refine ⟨P + 2, dturn_left hP lo w2 w3 s2 s3 (P + 2) 1 cs T q ops fails h (by omega) (by omega) (by omega) W S hT ⟨hsort, fun x => ?_⟩ Aw As O⟩
      constructor
      · intro hx
        obtain ⟨a, b⟩ := valsD_mem.1 (hsub (List.mem_append.2 (Or.inr hx)))
        exact ⟨a, b, fun ht => (List.nodup_append.1 hnd).2.2 _ ht _ hx rfl⟩
      · intro ⟨a, b, c⟩
        rcases List.mem_append.1 (hperm.mem_iff.2 (valsD_mem.2 ⟨a, b⟩)) with h1 | h1
        · exact absurd h1 c
        · exact h1

theorem replicate_rowV (n : Nat) (v : Value) : List.replicate n v = rowV n fun _ => v := by
  unfold rowV
  rw [List.map_const']
  simp
theorem dturn_check {h : Heap} {g : Gh} (D : Wd h0 h w d m mc n g) (hk : g.k ≤ 50000) (hQ : Quiet g) : F7.wk29 (some ⟨d, 0, none⟩) ⟨w, 0, none⟩ h (Lawful h0) := by
  obtain ⟨ho, hth⟩ := hQ
  obtain ⟨t1, t2, t3, t4⟩ := D.tg
  obtain ⟨l1, l2, l3, l4⟩ := D.lo
  have fE := D.few
  have hpl := perm_len D
  have sysN := D.sys
  rw [ho] at sysN
  have hand := sysN.idle
  have hperm := D.perm
  have hsort := D.sort
  rw [hand, List.append_nil] at hperm hsort
  have ends := sysN.ends
  have bsz := D.base.size
  have lw := D.at_.lt
  have ltd := D.dw.lt
  unfold F7.wk29 F7.Jk29
  simp only [add_mk, Nat.zero_add]
  refine ldB_of (n := true) (by rw [D.at_.rd]; rfl) ?_
  rw [Bool.not_true, bcase_false]
  refine ldP_of (n := none) (by rw [D.at_.rd, ho]; rfl) ?_
  rw [Option.isNone_none, Bool.not_true, bcase_false]
  refine ⟨by omega, by omega, ldP_of (n := none) ?_ ?_⟩
  · have := cellsW_get_th (m := m) (d := d) (ov := ovD g.o g.fo.1) (pu := g.push) (tv := fun i => ovD (g.th i) (g.ft i).1) (st := g.st) (tk := .slice g.tp g.took.length g.tc) (pt := .slice g.pp g.P g.pc) (i := 0) (by omega)
    rw [show 4 + Int.toNat 0 * 1 = 4 + 0 from rfl, D.at_.rd, this, hth 0 (by omega)]
    rfl
  rw [Option.isNone_none, Bool.not_true, bcase_false]
  refine ⟨by omega, by omega, ldP_of (n := none) ?_ ?_⟩
  · have := cellsW_get_th (m := m) (d := d) (ov := ovD g.o g.fo.1) (pu := g.push) (tv := fun i => ovD (g.th i) (g.ft i).1) (st := g.st) (tk := .slice g.tp g.took.length g.tc) (pt := .slice g.pp g.P g.pc) (i := 1) (by omega)
    rw [show 4 + Int.toNat 1 * 1 = 4 + 1 from rfl, D.at_.rd, this, hth 1 (by omega)]
    rfl
  rw [Option.isNone_none, Bool.not_true, bcase_false]
  refine ⟨by omega, by omega, ldP_of (n := none) ?_ ?_⟩
  · have := cellsW_get_th (m := m) (d := d) (ov := ovD g.o g.fo.1) (pu := g.push) (tv := fun i => ovD (g.th i) (g.ft i).1) (st := g.st) (tk := .slice g.tp g.took.length g.tc) (pt := .slice g.pp g.P g.pc) (i := 2) (by omega)
    rw [show 4 + Int.toNat 2 * 1 = 4 + 2 from rfl, D.at_.rd, this, hth 2 (by omega)]
    rfl
  rw [Option.isNone_none, Bool.not_true, bcase_false]
  refine ldS_of (by rw [D.at_.rd]; rfl) ?_
  rw [show IntKind.wrap .i64 ((g.P : Int) + 1) = ((g.P + 1 : Nat) : Int) by rw [wrap_i64 (by omega) (by omega)]; omega]
  rw [Int.toNat_natCast, Nat.mul_one]
  refine ⟨by omega, by omega, by omega, by omega, newK_at fun h1 A1 O1 z1 => ?_⟩
  rw [toList_madeCells_one, replicate_rowV] at A1
  unfold F7.wk33 F7.Jk33
  refine ⟨g.took.length + 1, dturn_seen (by omega) hpl ⟨l2, l3⟩ (tne (tag := g.tag) (by omega)) (tne (tag := g.tag) (by omega)) (by omega) (by omega) (by omega) (by omega) (fun hb => by have := (D.took.1.lt _ hb).2; omega) (by omega) hperm hsort (by omega) (g.took.length + 1) 0 h1 (by omega) (by omega) (D.dw.only O1 (by simp) (by simp) (by simp)) sysN.ds (D.at_.only O1 (by simp)) (D.took.1.only O1 (by simp)) (by simpa using A1) (D.base.nil O1 (by simp))⟩

/-- a thief comes to its end -/
theorem dturn_thief {j : Nat} (hj : j < 3) {bk : (Option Addr) → Addr → Int → Heap → Prop}
    (hend : ∀ (g : Gh) (h : Heap), Wd h0 h w d m mc n g → g.k ≤ 2000 → g.o = none → (∀ i, i < j + 1 → g.th i = none) → bk (some ⟨d, 0, none⟩) ⟨w, 0, none⟩ ((j + 1 : Nat) : Int) h) :
    ∀ (gas x : Nat) (g : Gh) (h : Heap), 17 - x < gas → mtD (g.th j) + x ≤ 16 → Wd h0 h w d m mc n g → g.k ≤ 2000 → g.o = none → (∀ i, i < j → g.th i = none) →
      F7.wL26 bk gas (some ⟨d, 0, none⟩) ⟨w, 0, none⟩ (j : Int) (x : Int) h (Lawful h0) := by
  intro gas
  induction gas with
  | zero => intro x g h hg; omega
  | succ gas ih =>
    intro x g h hg hx D hk ho hth
    unfold F7.wL26 F7.JL26
    simp only [add_mk, Nat.zero_add]
    rw [decide_eq_true (by omega), bcase_true]
    refine ⟨by omega, by omega, ?_⟩
    rw [Int.toNat_natCast, Nat.mul_one]
    cases hA : g.th j with
    | none =>
      refine ldP_of (n := none) (by rw [D.at_.rd, cellsW_get_th hj]; simp only [hA, ovD]) ?_
      rw [Option.isNone_none, Bool.not_true, bcase_false, show IntKind.wrap .i64 ((j : Int) + 1) = ((j + 1 : Nat) : Int) by rw [wrap_i64 (by omega) (by omega)]; omega]
      refine hend g h D hk ho fun i hi => ?_
      by_cases e : i = j
      · exact e ▸ hA
      · exact hth i (by omega)
    | some A =>
      refine ldP_of (n := some ⟨(g.ft j).1, 0, none⟩) (by rw [D.at_.rd, cellsW_get_th hj]; simp only [hA, ovD]) ?_
      rw [Option.isNone_some, Bool.not_false, bcase_true]
      have hpos := mtD_posT D (j := j) (by rw [hA]; exact fun e => by cases e)
      refine steals26 D (by omega) hj fun h1 g1 D1 hk1 ho1 hth1 hm1 => ⟨rfl, ?_⟩
      rw [show IntKind.wrap .i64 ((x : Int) + 1) = ((x + 1 : Nat) : Int) by rw [wrap_i64 (by omega) (by omega)]; omega]
      have := hm1 (by rw [hA]; exact fun e => by cases e)
      exact ih (x + 1) g1 h1 (by omega) (by omega) D1 (by omega) (ho1.trans ho) fun i hi => (hth1 i (by omega)).trans (hth i hi)
theorem dturn_thieves : ∀ (gas j : Nat) (g : Gh) (h : Heap), 3 - j < gas → j ≤ 3 → Wd h0 h w d m mc n g → g.k ≤ 2000 → g.o = none → (∀ i, i < j → g.th i = none) →
    F7.wL23 gas (some ⟨d, 0, none⟩) ⟨w, 0, none⟩ (j : Int) h (Lawful h0) := by
  intro gas
  induction gas with
  | zero => intro j g h hg; omega
  | succ gas ih =>
    intro j g h hg hj D hk ho hth
    unfold F7.wL23 F7.JL23
    by_cases hlt : j < 3
    · rw [decide_eq_true (by omega), bcase_true]
      unfold F7.wk26 F7.Jk26
      exact ⟨18, dturn_thief hlt (fun g h D hk ho hth => ih (j + 1) g h (by omega) (by omega) D hk ho hth) 18 0 g h (by omega) (by have := mtD_le (g.th j); omega) D hk ho hth⟩
    · rw [decide_eq_false (by omega), bcase_false]
      obtain rfl : j = 3 := by omega
      exact dturn_check D (by omega) ⟨ho, hth⟩
theorem dturn_owner : ∀ (gas x : Nat) (g : Gh) (h : Heap), 17 - x < gas → mtD g.o + x ≤ 16 → Wd h0 h w d m mc n g → g.k + (17 - x) ≤ 1000 →
    F7.wL19 gas (some ⟨d, 0, none⟩) ⟨w, 0, none⟩ (x : Int) h (Lawful h0) := by
  intro gas
  induction gas with
  | zero => intro x g h hg; omega
  | succ gas ih =>
    intro x g h hg hx D hk
    unfold F7.wL19 F7.JL19
    simp only [add_mk, Nat.zero_add]
    rw [decide_eq_true (by omega), bcase_true]
    cases hA : g.o with
    | none =>
      refine ldP_of (n := none) (by rw [D.at_.rd, hA]; rfl) ?_
      rw [Option.isNone_none, Bool.not_true, bcase_false]
      unfold F7.wk22 F7.Jk22 F7.wk23 F7.Jk23
      exact ⟨4, dturn_thieves 4 0 g h (by omega) (by omega) D (by omega) hA (fun i hi => by omega)⟩
    | some A =>
      refine ldP_of (n := some ⟨g.fo.1, 0, none⟩) (by rw [D.at_.rd, hA]; rfl) ?_
      rw [Option.isNone_some, Bool.not_false, bcase_true]
      have hpos := mtD_pos D (by rw [hA]; exact fun e => by cases e)
      refine owns25 D (by omega) fun h1 g1 D1 hk1 hth1 hm1 => ⟨rfl, ?_⟩
      rw [show IntKind.wrap .i64 ((x : Int) + 1) = ((x + 1 : Nat) : Int) by rw [wrap_i64 (by omega) (by omega)]; omega]
      have := hm1 (by rw [hA]; exact fun e => by cases e)
      exact ih (x + 1) g1 h1 (by omega) (by omega) D1 (by omega)
theorem dturn_loop (hl : ks.length ≤ 600) (hI : Ints h0 .u8 p ks) (hg : ∀ z ∈ ks, IntKind.min .u8 ≤ z ∧ z ≤ IntKind.max .u8) : ∀ (gas i : Nat) (g : Gh) (h : Heap), ks.length - i < gas → i ≤ ks.length → Wd h0 h w d m mc n g → g.k ≤ i →
    F7.wL12 gas p ks.length cap (some ⟨d, 0, none⟩) ⟨w, 0, none⟩ (i : Int) h (Lawful h0) := by
  intro gas
  induction gas with
  | zero => intro i g h hg'; omega
  | succ gas ih =>
    intro i g h hg' hi D hk
    unfold F7.wL12 F7.JL12
    by_cases hlt : i < ks.length
    · rw [decide_eq_true (by omega), bcase_true]
      obtain ⟨a, rfl, ha⟩ := hI.only D.base (by simp) i hlt
      have hz := range_getD hg hlt
      have hz0 : 0 ≤ ks.getD i 0 := hz.1
      have hz1 : ks.getD i 0 ≤ 255 := hz.2
      refine ⟨by omega, by omega, ?_⟩
      rw [Int.toNat_natCast, Nat.mul_one, ha, ldI_some]
      rw [show IntKind.wrap .i64 ((i : Int) + 1) = ((i + 1 : Nat) : Int) by rw [wrap_i64 (by omega) (by omega)]; omega]
      obtain ⟨r0, r1⟩ := tmod_fit hz (by omega : (0 : Int) < 8)
      refine ⟨by decide, bcase_of (fun _ => ⟨by omega, by omega, ?_⟩) fun e => ⟨by decide, ?_⟩⟩
      · rw [ha, ldI_some]
        refine ⟨by decide, owns25 D (by omega) fun h1 g1 D1 hk1 _ _ => ⟨rfl, ?_⟩⟩
        exact ih (i + 1) g1 h1 (by omega) (by omega) D1 (by omega)
      · have e := of_decide_eq_false e
        obtain ⟨j, hj, hj3⟩ : ∃ j : Nat, Int.tmod (IntKind.wrap .i64 (IntKind.wrap .u8 ((Int.tmod (ks.getD i 0) (8 : Int)) - (4 : Int)))) (3 : Int) = j ∧ j < 3 := by
          generalize ks.getD i 0 = z at *
          generalize z.tmod 8 = y at *
          have e8 : IntKind.wrap .u8 (y - (4 : Int)) = y - (4 : Int) := by
            simp [IntKind.wrap, IntKind.bits, IntKind.signed]
            omega
          rw [e8, wrap_i64 (by omega) (by omega), Int.tmod_eq_emod_of_nonneg (by omega)]
          have h3 := Int.emod_nonneg (y - (4 : Int)) (by omega : (3 : Int) ≠ 0)
          have h4 := Int.emod_lt_of_pos (y - (4 : Int)) (by omega : (0 : Int) < 3)
          exact ⟨((y - (4 : Int)) % 3).toNat, by omega, by omega⟩
        rw [hj]
        refine steals26 D (by omega) hj3 fun h1 g1 D1 hk1 _ _ _ => ⟨rfl, ?_⟩
        exact ih (i + 1) g1 h1 (by omega) (by omega) D1 (by omega)
    · rw [decide_eq_false (by omega), bcase_false]
      unfold F7.wk18 F7.Jk18 F7.wk19 F7.Jk19
      exact ⟨18, dturn_owner 18 0 g h (by omega) (by have := mtD_le g.o; omega) D (by omega)⟩
end

theorem dturns_law (h : Heap) (v : Int) (hv : IntKind.min .u8 ≤ v ∧ v ≤ IntKind.max .u8) (p : Option Addr) (c : Nat) (ks : List Int) (hI : Ints h .u8 p ks) (hg : ∀ z ∈ ks, IntKind.min .u8 ≤ z ∧ z ≤ IntKind.max .u8) (_ : (ks.length : Int) ≤ maxLen) :
    CallsH Try.prog 7 [.int .u8 v, .slice p ks.length c] h (Lawful h) := by
  apply F7.spec
  unfold F7.w F7.J0
  refine known8 fun h1 O1 => ldB_of rfl ?_
  rw [Bool.not_true, bcase_false]
  refine bcase_of (fun _ => ⟨rfl, O1⟩) fun hl => ?_
  simp at hl
  obtain ⟨w0, w1⟩ := tmod_fit hv (by omega : (0 : Int) < 6)
  obtain ⟨k, hk⟩ : ∃ k : Nat, v.tmod 6 = k := ⟨(v.tmod 6).toNat, by omega⟩
  rw [hk] at w0 w1 ⊢
  have f1 : IntKind.wrap .i64 (k : Int) = k := wrap_i64 (by omega) (by omega)
  have f2 : IntKind.wrap .i64 ((k : Int) + 1) = ((k + 1 : Nat) : Int) := by
    rw [wrap_i64 (by omega) (by omega)]
    simp
  rw [f1, f2]
  have hn1 : 1 ≤ k + 1 := by omega
  have hn9 : k + 1 ≤ 6 := by omega
  generalize k + 1 = n at *
  refine ⟨by decide, cellsD_spec (by omega) (by omega) (ldI_of rfl ?_)⟩
  rw [show (n : Int) + 2 = ((n + 2 : Nat) : Int) by omega]
  refine new_spec fun m mc h2 M2 O2 hm hc => ldP_of rfl ?_
  rw [cellsFor_of (by omega)] at M2
  refine deqnew_spec (base := 0) (n := n) M2 (by omega) (by omega) (by simp; omega) (by simp; omega) fun d h5 Q5 O5 hd5 => ⟨_, _, rfl, ?_⟩
  have M5 := M2.only O5 (by simp) (by simp)
  rw [show ((0 : Int) != 0) = false from rfl, bcase_false]
  have lm := M2.head.lt
  have lc := M2.body.lt
  have s1 := O1.size
  have W5 : DW h5 d m mc 0 n (List.replicate (n + 2) (0 : Int)) _ 0 := ⟨Q5, M5, by omega, by omega, by omega, by omega, by omega, by simp; omega⟩
  refine newK_at fun h6 A6 O6 z6 => ?_
  unfold F7.wk12 F7.Jk12
  have lt5 := W5.lt
  have S5 : DS 0 n (List.replicate (n + 2) (0 : Int)) 0 [] := DS.empty (N := n + 2) (by omega) (zeros8 _ _) (zeros8 _ _)
  refine ⟨ks.length + 1, dturn_loop (by omega) hI hg (ks.length + 1) 0 ⟨List.replicate (n + 2) 0, 0, 0, 0, 0, [], [], none, fun _ => none, [], 0, 0, fun _ => 0, (0, 0, 0), fun _ => (0, 0, 0), fun b => if b = d then 1 else if b = m then 2 else if b = mc then 2 else 3, none, 0, none, 0, 0⟩ h6 (by omega) (by omega)
    ⟨W5.only O6 (by simp) (by simp) (by simp), S5.sys, A6, fun A hA => (by cases hA), fun i hi A hA => (by cases hA), fun _ => rfl, fun _ _ _ => rfl, ⟨Win.nil _ _, by simp [OwnB]⟩, ⟨Win.nil _ _, by simp [OwnB]⟩, List.Perm.refl _, by simp, ?_, ⟨by omega, by omega, by omega, by omega⟩, ⟨Nat.le_refl _, Nat.le_refl _⟩, ((O1.nil O2 (by simp)).nil O5 (by simp)).nil O6 (by simp)⟩ (Nat.le_refl _)⟩
  refine ⟨if_pos rfl, ?_, ?_, ?_⟩
  · dsimp only
    rw [if_neg (by omega), if_pos rfl]
  · dsimp only
    rw [if_neg (by omega)]
    split
    · rfl
    · rw [if_pos rfl]
  · dsimp only
    rw [if_neg (by omega), if_neg (by omega), if_neg (by omega)]
end Go.Proofs.Ytipckkeaoncjiaa.Ev
