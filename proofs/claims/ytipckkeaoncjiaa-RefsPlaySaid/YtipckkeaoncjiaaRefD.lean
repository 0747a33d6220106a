/- WHAT IS PROTECTED (package refs): new ones, the stacks, seen from the heap. Conditions: the refs stand (Rf). -/
import Derived.Test.YtipckkeaoncjiaaRefC
namespace Go.Proofs.Ytipckkeaoncjiaa.Ev
open Go

def wkI (x : Int) : Int := if (4 : Int) < (if (1 : Int) > x then (1 : Int) else x) then (4 : Int) else (if (1 : Int) > x then (1 : Int) else x)
theorem wkI_range (x : Int) : 1 ≤ wkI x ∧ wkI x ≤ 4 := by
  unfold wkI
  repeat' split
  all_goals omega
theorem rep_rowV (n : Nat) (v : Value) : List.replicate n v = rowV n fun _ => v := by
  unfold rowV
  rw [List.map_const']
  simp
theorem newK_map {h : Heap} {k : IntKind} {K : Nat → Heap → Prop} (hK : ∀ h', MapM h' h.size k [] → Only [] h h' → h'.size = h.size + 1 → K h.size h') : newK h (.map #[] 0) K :=
  hK _ (MapM.empty (by unfold mp; simp)) (Only.push_map h _ _) (by simp)
theorem new28 {h : Heap} {x : Int} {K : Value → Heap → Prop} (hK : ∀ h' r M S, Rf h.size h' r M S (wkI x).toNat 0 (fun _ => 0) (fun _ => none) (fun _ => 0) (fun _ => []) → Only [] h h' → K (.pointer (some ⟨r, 0, none⟩)) h') :
    CallsH Try.prog 28 [.int .i64 x] h K := by
  refine F28.spec _ h K ?_
  unfold F28.w F28.J0
  change newK h (.map #[] 0) fun b1 h2 => (0 ≤ wkI x ∧ wkI x ≤ wkI x ∧ ((Nat.cast 24 : Int) * wkI x ≤ 281474976710656) ∧ wkI x ≤ 9223372036854775807 ∧ newK h2 (.cells (madeCells #[(.slice none 0 0)] (Int.toNat (wkI x) * 1)) 61) (fun b3 h4 => newK h4 (.cells #[(.map (some b1)), (.slice (some (Addr.mk b3 0 none)) (Int.toNat (wkI x)) (Int.toNat (wkI x)))] 99) (fun b5 h6 => K (.pointer (some (Addr.mk b5 0 none))) h6)))
  have hw := wkI_range x
  generalize wkI x = y at hw hK ⊢
  refine newK_map (k := .u32) fun h1 M1 O1 z1 => ⟨by omega, by omega, by omega, by omega, ?_⟩
  refine newK_at fun h2 A2 O2 z2 => ?_
  refine newK_at fun h3 A3 O3 z3 => ?_
  rw [toList_madeCells_one, rep_rowV, Nat.mul_one] at A2
  refine hK h3 _ h.size _ ⟨A3, A2.only O3 (by simp), ⟨[], (M1.only O2 (by simp)).only O3 (by simp), fun x => by simp [List.lookup], Nat.le_refl _⟩, fun x => by omega, fun x h => absurd rfl h, fun k hk => Own.nil _ _ _, fun k hk => Nat.le_refl _, ⟨by omega, by omega, Nat.le_refl _⟩, by omega, fun k hk b hb => by simp [OwnB] at hb⟩ ((O1.trans O2 (by simp)).trans O3 (by simp))
section
variable {lo : Nat} {h h' : Heap} {r M S W N : Nat} {f : Int → Int} {p : Nat → Option Addr} {c : Nat → Nat} {L : Nat → List Int} {K : Value → Heap → Prop}
theorem depth31 (H : Rf lo h r M S W N f p c L) {w : Int} (hK : K (.int .i64 (if 0 ≤ w ∧ w < W then ((L w.toNat).length : Int) else 0)) h) : CallsH Try.prog 31 [.pointer (some ⟨r, 0, none⟩), .int .i64 w] h K := by
  refine F31.spec _ _ h K ?_
  unfold F31.w F31.J0
  refine bcase_of (fun h1 => ?_) fun h1 => ?_
  · simp only [decide_eq_true_eq] at h1
    rw [if_neg (by omega)] at hK
    exact hK
  · simp only [decide_eq_false_iff_not] at h1
    rw [add_mk, Nat.zero_add, H.rd1, ldS_some]
    refine bcase_of (fun h2 => ?_) fun h2 => ?_
    · simp only [decide_eq_true_eq] at h2
      rw [if_neg (by omega)] at hK
      exact hK
    · simp only [decide_eq_false_iff_not] at h2
      obtain ⟨k, rfl⟩ : ∃ k : Nat, w = k := ⟨w.toNat, by omega⟩
      rw [if_pos (by omega), Int.toNat_natCast] at hK
      rw [ldS_some, ptrK_some]
      refine ⟨by omega, by omega, ?_⟩
      rw [add_mk, show 0 + Int.toNat (k : Int) * 1 = k by omega, H.rdT (by omega), ldS_some]
      exact hK
def pup {α : Type} (p : Nat → α) (w : Nat) (v : α) : Nat → α := fun k => if k = w then v else p k
/-- a stack's head set -/
theorem head_set (H : Rf lo h r M S W N f p c L) {w : Nat} (hw : w < W) {h2 : Heap} (O : Only (S :: OwnB (p w)) h h2) {p' : Option Addr} {c' : Nat} {l' : List Int} {N' : Nat} (hN : N ≤ N') (hl : l'.length ≤ N')
    (A : At h2 S (rowV W fun k => .slice (pup p w p' k) (pup L w l' k).length (pup c w c' k))) (Ow : Own h2 lo 1 p' l'.length c' (l'.map (Value.int .u32))) (hp' : ∀ b ∈ OwnB p', b ∈ OwnB (p w) ∨ h.size ≤ b) :
    Rf lo h2 r M S W N' f (pup p w p') (pup c w c') (pup L w l') where
  R := H.R.only O (by
    simp only [List.mem_cons, not_or]
    exact ⟨H.rS, fun hb => (H.sep w hw r hb).1 rfl⟩)
  T := A
  Mm := by
    obtain ⟨m, a, b, d⟩ := H.Mm
    refine ⟨m, a.only O ?_, b, Nat.le_trans d hN⟩
    simp only [List.mem_cons, not_or]
    exact ⟨fun e => H.SM e.symm, fun hb => H.pM hw hb rfl⟩
  fr := fun x => ⟨(H.fr x).1, by have := (H.fr x).2; omega⟩
  fx := H.fx
  own := fun k hk => by
    unfold pup
    by_cases e : k = w
    · subst e
      rw [if_pos rfl, if_pos rfl, if_pos rfl]
      exact Ow
    · rw [if_neg e, if_neg e, if_neg e]
      refine (H.own k hk).onlyC O fun b hb _ => ?_
      simp only [List.mem_cons, not_or]
      exact ⟨(H.sep k hk b hb).2.1, (H.sep k hk b hb).2.2 w hw (Ne.symm e)⟩
  len := fun k hk => by
    unfold pup
    by_cases e : k = w
    · rw [if_pos e]; exact hl
    · rw [if_neg e]; exact Nat.le_trans (H.len k hk) hN
  ge := H.ge
  rS := H.rS
  sep := fun k hk b hb => by
    have old : ∀ b ∈ OwnB p', b ≠ r ∧ b ≠ S ∧ ∀ k', k' < W → k' ≠ w → b ∉ OwnB (p k') := fun b hb => by
      rcases hp' b hb with h1 | h1
      · exact H.sep w hw b h1
      · have l := H.lt
        exact ⟨by omega, by omega, fun k' hk' _ hb' => by have := (l.2.2.2 k' hk' b hb').2; omega⟩
    unfold pup at hb ⊢
    by_cases e : k = w
    · subst e
      rw [if_pos rfl] at hb
      obtain ⟨a1, a2, a3⟩ := old b hb
      refine ⟨a1, a2, fun k' hk' hne => ?_⟩
      rw [if_neg hne]
      exact a3 k' hk' hne
    · rw [if_neg e] at hb
      obtain ⟨a1, a2, a3⟩ := H.sep k hk b hb
      refine ⟨a1, a2, fun k' hk' hne => ?_⟩
      by_cases e' : k' = w
      · rw [if_pos e']
        intro hb'
        exact (old b hb').2.2 k hk e hb
      · rw [if_neg e']
        exact a3 k' hk' hne
theorem head_row {w : Nat} {p' : Option Addr} {c' : Nat} {l' : List Int} : (rowV W fun k => Value.slice (p k) (L k).length (c k)).set w (.slice p' l'.length c') = rowV W fun k => .slice (pup p w p' k) (pup L w l' k).length (pup c w c' k) := by
  rw [rowV_set]
  apply rowV_ext
  intro k _
  unfold pup
  split <;> rfl
theorem push29 (H : Rf lo h r M S W N f p c L) {w x : Int} (hN : N ≤ LB / 8) (hlo : lo ≤ h.size) (hx : ¬ (0 ≤ w ∧ w < W) → K (.bool false) h)
    (hK : ∀ k : Nat, w = k → k < W → ∀ h' p' c', Rf lo h' r M S W (N + 1) f (pup p k p') (pup c k c') (pup L k (L k ++ [x])) → Only (S :: OwnB (p k)) h h' → (∀ b ∈ OwnB p', b ∈ OwnB (p k) ∨ h.size ≤ b) → K (.bool true) h') :
    CallsH Try.prog 29 [.pointer (some ⟨r, 0, none⟩), .int .i64 w, .int .u32 x] h K := by
  refine F29.spec _ _ _ h K ?_
  have hLB : LB = 140737488355328 := rfl
  unfold F29.w F29.J0
  refine bcase_of (fun h1 => ?_) fun h1 => ?_
  · simp only [decide_eq_true_eq] at h1
    exact hx (by omega)
  · simp only [decide_eq_false_iff_not] at h1
    rw [add_mk, Nat.zero_add, H.rd1, ldS_some]
    refine bcase_of (fun h2 => ?_) fun h2 => ?_
    · simp only [decide_eq_true_eq] at h2
      exact hx (by omega)
    · simp only [decide_eq_false_iff_not] at h2
      obtain ⟨k, rfl⟩ : ∃ k : Nat, w = k := ⟨w.toNat, by omega⟩
      have hk : k < W := by omega
      rw [ldS_some, ldS_some, ptrK_some]
      refine ⟨by omega, by omega, ?_⟩
      rw [add_mk, show 0 + Int.toNat (k : Int) * 1 = k by omega, H.rdT hk, ldS_some]
      refine newK_at fun h3 A3 O3 z3 => ?_
      have H3 := H.new O3
      refine ⟨rfl, rfl, rfl, ?_⟩
      rw [H3.rd1, ldS_some]
      refine ⟨rfl, rfl, rfl, rfl, rfl, ?_⟩
      rw [ldS_some]
      refine ⟨rfl, rfl, ?_⟩
      rw [ptrK_some]
      refine ⟨by omega, by omega, by rw [add_mk, show 0 + Int.toNat (k : Int) * 1 = k by omega], ?_⟩
      rw [H3.rdT hk, ldS_some]
      refine ⟨rfl, ?_⟩
      have hb := H3.len k hk
      refine own_app (lo := lo) (H3.own k hk) A3 rfl rfl (by omega) (by simp [Value.oneCell']) (by omega) fun p' c' h4 Ow O4 hp' => ⟨rfl, rfl, rfl, ?_⟩
      have nS : S ∉ OwnB (p k) := fun hb => (H.sep k hk S hb).2.1 rfl
      have nr : r ∉ OwnB (p k) := fun hb => (H.sep k hk r hb).1 rfl
      have R4 := H3.R.only O4 nr
      have T4 := H3.T.only O4 nS
      rw [show rd h4 ⟨r, 1, none⟩ = some (.slice (some ⟨S, 0, none⟩) W W) from R4.rd 1, ldS_some]
      refine ⟨rfl, rfl, ?_⟩
      rw [ptrK_some]
      refine ⟨by omega, by omega, ?_⟩
      rw [add_mk, add_mk, show 0 + Int.toNat (k : Int) * 1 + 0 = k by omega]
      refine stK_at T4 (by rw [rowV_len]; exact hk) rfl fun h5 A5 O5 z5 => ?_
      have O35 : Only (S :: OwnB (p k)) h h5 := ((O3.mono (T := S :: OwnB (p k)) (by simp)).trans O4 (by intro b hb _; simp [hb])).trans O5 (by intro b hb _; simp at hb; simp [hb])
      have hp5 : ∀ b ∈ OwnB p', b ∈ OwnB (p k) ∨ h.size ≤ b := fun b hb => by
        rcases hp' b hb with h | h
        · exact .inl h
        · exact .inr (by omega)
      have A5' : At h5 S (rowV W fun j => .slice (pup p k p' j) (pup L k (L k ++ [x]) j).length (pup c k c' j)) := by
        rw [← head_row]
        rw [List.length_append, List.length_singleton]
        exact A5
      refine hK k rfl hk h5 p' c' (head_set H hk O35 (by omega) (by simp; have := H.len k hk; omega) A5' ?_ hp5) O35 hp5
      rw [List.length_append, List.length_singleton, List.map_append, List.map_singleton]
      refine Ow.onlyC O5 fun b hb _ hbS => ?_
      simp at hbS
      subst hbS
      rcases hp' b hb with h | h
      · exact nS h
      · have := H.lt; omega
theorem pop30 (H : Rf lo h r M S W N f p c L) {w : Int} (hN : N ≤ LB / 8) (h0 : (¬ (0 ≤ w ∧ w < W) ∨ L w.toNat = []) → K (.tuple #[.int .u32 0, .bool false]) h)
    (hK : ∀ (k : Nat) (l : List Int) (x : Int), w = k → k < W → L k = l ++ [x] → ∀ h', Rf lo h' r M S W N f p c (pup L k l) → Only [S] h h' → K (.tuple #[.int .u32 x, .bool true]) h') :
    CallsH Try.prog 30 [.pointer (some ⟨r, 0, none⟩), .int .i64 w] h K := by
  refine F30.spec _ _ h K ?_
  have hLB : LB = 140737488355328 := rfl
  unfold F30.w F30.J0
  refine depth31 H ?_
  rw [ldI_some]
  by_cases hin : 0 ≤ w ∧ w < W
  · rw [if_pos hin]
    obtain ⟨k, rfl⟩ : ∃ k : Nat, w = k := ⟨w.toNat, by omega⟩
    have hk : k < W := by omega
    rw [Int.toNat_natCast] at h0 ⊢
    rcases List.eq_nil_or_concat (L k) with e | ⟨l, x, e⟩
    · rw [e, show (((([] : List Int).length : Nat) : Int) == 0) = true by simp, bcase_true]
      exact h0 (.inr e)
    · rw [List.concat_eq_append] at e
      have hlen : (L k).length = l.length + 1 := by rw [e]; simp
      have hb := H.len k hk
      rw [show ((((L k).length : Nat) : Int) == 0) = false from beq_eq_false_iff_ne.2 (by omega), bcase_false, add_mk, Nat.zero_add, H.rd1, ldS_some, ptrK_some]
      refine ⟨by omega, by omega, ?_⟩
      rw [add_mk, show 0 + k * 1 = k by omega, H.rdT hk, ldS_some, ldS_some, show IntKind.wrap .i64 (((L k).length : Int) - 1) = (l.length : Int) by rw [wrapN (by omega) (by omega)]; omega]
      have Ow := H.own k hk
      have hc : (L k).length ≤ c k := by
        rcases Ow.2 with ⟨_, e1, _⟩ | ⟨b, sp, _, _, h3, _⟩
        · omega
        · exact h3
      obtain ⟨b, sp, hpb, hlob, h3, h4, h5⟩ : ∃ (b : Nat) (sp : List Value), p k = some ⟨b, 0, none⟩ ∧ lo ≤ b ∧ (L k).length ≤ c k ∧ sp.length = (c k - (L k).length) * 1 ∧ At h b ((L k).map (Value.int .u32) ++ sp) := by
        rcases Ow.2 with ⟨_, e1, _⟩ | h
        · omega
        · exact h
      refine ⟨by omega, by omega, ?_⟩
      rw [ptrK_some]
      refine ⟨by omega, by omega, ?_⟩
      rw [add_mk, add_mk, show 0 + k * 1 + 0 = k by omega, if_neg (by omega : ¬ c k = 0)]
      have ep : Option.map (fun a => Addr.add a (0 * 1)) (p k) = p k := by rw [hpb]; simp
      rw [ep, Nat.sub_zero, Int.toNat_natCast, Nat.sub_zero]
      refine stK_at H.T (by rw [rowV_len]; exact hk) rfl fun h6 A6 O6 z6 => ?_
      have nbS : b ≠ S := fun e => (H.sep k hk b (by rw [hpb]; simp [OwnB])).2.1 e
      have h5' := h5.only O6 (by simpa using nbS)
      rw [hpb, ptrK_some]
      refine ⟨by omega, by omega, ?_⟩
      rw [add_mk, h5'.rd, show 0 + l.length * 1 = l.length by omega, List.getElem?_append_left (by simp; omega)]
      have ex : ((L k).map (Value.int .u32))[l.length]? = some (.int .u32 x) := by rw [e]; simp
      rw [ex, ldI_some]
      have e1 : pup p k (p k) = p := by funext j; unfold pup; split <;> simp_all
      have e2 : pup c k (c k) = c := by funext j; unfold pup; split <;> simp_all
      have A6' : At h6 S (rowV W fun j => .slice (pup p k (p k) j) (pup L k l j).length (pup c k (c k) j)) := by
        rw [← head_row]
        exact A6
      have R6 := head_set H hk (O6.mono (T := S :: OwnB (p k)) (by intro b hb _; simp at hb; simp [hb])) (Nat.le_refl _) (by omega) A6' ⟨by simp, .inr ⟨b, .int .u32 x :: sp, hpb, hlob, by omega, by simp; omega, by rw [e] at h5'; simpa using h5'⟩⟩ fun b hb => .inl hb
      rw [e1, e2] at R6
      exact hK k l x rfl hk e h6 R6 O6
  · rw [if_neg hin, show ((0 : Int) == 0) = true by decide, bcase_true]
    exact h0 (.inl hin)
end
end Go.Proofs.Ytipckkeaoncjiaa.Ev
