/- WHAT IS PROTECTED (package refs): its calls, seen from the heap. Conditions: the refs stand (Rf). -/
import Derived.Test.YtipckkeaoncjiaaRefB
import Derived.Test.YtipckkeaoncjiaaIterD
namespace Go.Proofs.Ytipckkeaoncjiaa.Ev
open Go

/-- refs at r: a map M of counts f, the stacks' heads at S, each stack's row of its own; none of these below lo; N bounds them -/
structure Rf (lo : Nat) (h : Heap) (r M S W N : Nat) (f : Int → Int) (p : Nat → Option Addr) (c : Nat → Nat) (L : Nat → List Int) : Prop where
  R : At h r [.map (some M), .slice (some ⟨S, 0, none⟩) W W]
  T : At h S (rowV W fun k => .slice (p k) (L k).length (c k))
  Mm : ∃ m, MapM h M .u32 m ∧ (∀ x, m.lookup x = if f x = 0 then none else some (.int .i64 (f x))) ∧ m.length ≤ N
  fr : ∀ x, 0 ≤ f x ∧ f x ≤ N
  fx : ∀ x, f x ≠ 0 → 0 ≤ x ∧ x ≤ 4294967295
  own : ∀ k, k < W → Own h lo 1 (p k) (L k).length (c k) ((L k).map (Value.int .u32))
  len : ∀ k, k < W → (L k).length ≤ N
  ge : lo ≤ r ∧ lo ≤ S ∧ lo ≤ M
  rS : r ≠ S
  sep : ∀ k, k < W → ∀ b ∈ OwnB (p k), b ≠ r ∧ b ≠ S ∧ ∀ k', k' < W → k' ≠ k → b ∉ OwnB (p k')
theorem At.ne_map {h : Heap} {b M : Nat} {c : List Value} {k : IntKind} {m : List (Int × Value)} (A : At h b c) (H : MapM h M k m) : b ≠ M := by
  obtain ⟨es, cl, h1, -⟩ := H
  obtain ⟨e, A⟩ := A
  intro e'
  subst e'
  rw [mp_obj h1] at A
  cases A
section
variable {lo : Nat} {h h' : Heap} {r M S W N : Nat} {f : Int → Int} {p : Nat → Option Addr} {c : Nat → Nat} {L : Nat → List Int} {K : Value → Heap → Prop}
theorem Rf.rM (H : Rf lo h r M S W N f p c L) : r ≠ M := by obtain ⟨m, a, -⟩ := H.Mm; exact H.R.ne_map a
theorem Rf.SM (H : Rf lo h r M S W N f p c L) : S ≠ M := by obtain ⟨m, a, -⟩ := H.Mm; exact H.T.ne_map a
theorem Rf.pM (H : Rf lo h r M S W N f p c L) {k : Nat} (hk : k < W) {b : Nat} (hb : b ∈ OwnB (p k)) : b ≠ M := by
  obtain ⟨m, a, -⟩ := H.Mm
  obtain ⟨c, A⟩ := (H.own k hk).cells b hb
  exact A.ne_map a
theorem Rf.only (H : Rf lo h r M S W N f p c L) {X : List Nat} (O : Only X h h') (hr : r ∉ X) (hS : S ∉ X) (hM : M ∉ X) (hp : ∀ k, k < W → ∀ b ∈ OwnB (p k), b ∉ X) : Rf lo h' r M S W N f p c L where
  R := H.R.only O hr
  T := H.T.only O hS
  Mm := by obtain ⟨m, a, b, d⟩ := H.Mm; exact ⟨m, a.only O hM, b, d⟩
  fr := H.fr
  fx := H.fx
  own := fun k hk => (H.own k hk).onlyC O fun b hb _ => hp k hk b hb
  len := H.len
  ge := H.ge
  rS := H.rS
  sep := H.sep
theorem Rf.new (H : Rf lo h r M S W N f p c L) (O : Only [] h h') : Rf lo h' r M S W N f p c L := H.only O (by simp) (by simp) (by simp) (by simp)
theorem Rf.lt (H : Rf lo h r M S W N f p c L) : r < h.size ∧ S < h.size ∧ M < h.size ∧ ∀ k, k < W → ∀ b ∈ OwnB (p k), lo ≤ b ∧ b < h.size := by
  obtain ⟨m, a, -⟩ := H.Mm
  exact ⟨H.R.lt, H.T.lt, a.lt, fun k hk => (H.own k hk).lt⟩
theorem Rf.grow (H : Rf lo h r M S W N f p c L) {N' : Nat} (hN : N ≤ N') : Rf lo h r M S W N' f p c L :=
  { H with
    Mm := by obtain ⟨m, a, b, d⟩ := H.Mm; exact ⟨m, a, b, Nat.le_trans d hN⟩
    fr := fun x => ⟨(H.fr x).1, by have := (H.fr x).2; omega⟩
    len := fun k hk => Nat.le_trans (H.len k hk) hN }
theorem Rf.rd0 (H : Rf lo h r M S W N f p c L) : rd h ⟨r, 0, none⟩ = some (.map (some M)) := H.R.rd 0
theorem Rf.rd1 (H : Rf lo h r M S W N f p c L) : rd h ⟨r, 1, none⟩ = some (.slice (some ⟨S, 0, none⟩) W W) := H.R.rd 1
theorem Rf.rdT (H : Rf lo h r M S W N f p c L) {k : Nat} (hk : k < W) : rd h ⟨S, k, none⟩ = some (.slice (p k) (L k).length (c k)) := by rw [H.T.rd, rowV_get hk]

/-- Count -/
theorem look_rf (H : Rf lo h r M S W N f p c L) {x : Int} {K : Int → Prop} (hK : K (f x)) : lookK h (some M) .u32 .u32 x fun o => ldI .i64 (some (lkV (.int .i64 (0 : Int)) o)) K := by
  obtain ⟨m, a, b, -⟩ := H.Mm
  refine look_map a (fun e => ?_) fun i v e => ?_
  · rw [b x] at e
    have : f x = 0 := by
      by_cases h0 : f x = 0
      · exact h0
      · rw [if_neg h0] at e; cases e
    rw [this] at hK
    show ldI .i64 (some (.int .i64 0)) K
    rw [ldI_some]
    exact hK
  · rw [b x] at e
    by_cases h0 : f x = 0
    · rw [if_pos h0] at e; cases e
    · rw [if_neg h0] at e
      injection e with e
      subst e
      show ldI .i64 (some (.int .i64 (f x))) K
      rw [ldI_some]
      exact hK
theorem count34 (H : Rf lo h r M S W N f p c L) {x : Int} (hK : K (.int .i64 (f x)) h) : CallsH Try.prog 34 [.pointer (some ⟨r, 0, none⟩), .int .u32 x] h K := by
  refine F34.spec _ _ h K ?_
  unfold F34.w F34.J0
  rw [add_mk, H.rd0, ldM_some]
  exact look_rf H hK
def fup (f : Int → Int) (x v : Int) : Int → Int := fun y => if y = x then v else f y
theorem mset_len {m : List (Int × Value)} {x : Int} {v : Value} : (mset m x v).length ≤ m.length + 1 := by
  unfold mset
  split <;> simp
theorem mdel_len {m : List (Int × Value)} {x : Int} : (mdel m x).length ≤ m.length := by
  unfold mdel
  exact List.length_filter_le _ _
theorem map_only (H : Rf lo h r M S W N f p c L) (O : Only [M] h h') {N' : Nat} {f' : Int → Int} (hN : N ≤ N') (hm : ∃ m, MapM h' M .u32 m ∧ (∀ x, m.lookup x = if f' x = 0 then none else some (.int .i64 (f' x))) ∧ m.length ≤ N')
    (hfr : ∀ x, 0 ≤ f' x ∧ f' x ≤ N') (hfx : ∀ x, f' x ≠ 0 → 0 ≤ x ∧ x ≤ 4294967295) : Rf lo h' r M S W N' f' p c L where
  R := H.R.only O (by simpa using H.rM)
  T := H.T.only O (by simpa using H.SM)
  Mm := hm
  fr := hfr
  fx := hfx
  own := fun k hk => (H.own k hk).onlyC O fun b hb _ => by simpa using H.pM hk hb
  len := fun k hk => Nat.le_trans (H.len k hk) hN
  ge := H.ge
  rS := H.rS
  sep := H.sep
theorem prot33 (H : Rf lo h r M S W N f p c L) {x : Int} (hx : 0 ≤ x ∧ x ≤ 4294967295) (hN : N ≤ LB) (hK : ∀ h', Rf lo h' r M S W (N + 1) (fup f x (f x + 1)) p c L → Only [M] h h' → K (.tuple #[]) h') :
    CallsH Try.prog 33 [.pointer (some ⟨r, 0, none⟩), .int .u32 x] h K := by
  refine F33.spec _ _ h K ?_
  have hLB : LB = 140737488355328 := rfl
  unfold F33.w F33.J0
  rw [add_mk, H.rd0, ldM_some]
  have b := H.fr x
  refine look_rf H ?_
  obtain ⟨m, a, b', d⟩ := H.Mm
  refine upd_map a fun h1 M1 O1 z1 => ?_
  rw [wrap_i64 (by omega) (by omega)] at M1
  refine hK h1 (map_only H O1 (by omega) ⟨_, M1, fun y => ?_, Nat.le_trans mset_len (by omega)⟩ (fun y => ?_) fun y => ?_) O1
  · rw [lookup_mset]
    unfold fup
    by_cases hy : y = x
    · rw [if_pos hy, if_pos hy, if_neg (by omega)]
    · rw [if_neg hy, if_neg hy]
      exact b' y
  · unfold fup
    have := H.fr y
    split <;> omega
  · unfold fup
    by_cases hy : y = x
    · subst hy; intro _; exact hx
    · rw [if_neg hy]; exact H.fx y
theorem unp36 (H : Rf lo h r M S W N f p c L) {x : Int} (hN : N ≤ LB) (h0 : f x = 0 → K (.int .i64 61) h) (hK : f x ≠ 0 → ∀ h', Rf lo h' r M S W (N + 1) (fup f x (f x - 1)) p c L → Only [M] h h' → K (.int .i64 0) h') :
    CallsH Try.prog 36 [.pointer (some ⟨r, 0, none⟩), .int .u32 x] h K := by
  refine F36.spec _ _ h K ?_
  have hLB : LB = 140737488355328 := rfl
  unfold F36.w F36.J0
  rw [add_mk, H.rd0, ldM_some]
  have b := H.fr x
  refine look_rf H ?_
  refine bcase_of (fun e => h0 (by simpa using e)) fun e => ?_
  have e' : f x ≠ 0 := by simpa using e
  have hx := H.fx x e'
  rw [ldM_some]
  refine look_rf H ?_
  obtain ⟨m, a, b', d⟩ := H.Mm
  refine upd_map a fun h1 M1 O1 z1 => ?_
  rw [wrap_i64 (by omega) (by omega)] at M1
  have R1 := H.R.only O1 (by simpa using H.rM)
  rw [show rd h1 ⟨r, 0 + 0, none⟩ = some (.map (some M)) from R1.rd 0, ldM_some]
  refine look_map M1 (fun e => ?_) fun i v e => ?_
  · rw [lookup_mset, if_pos rfl] at e; cases e
  · rw [lookup_mset, if_pos rfl] at e
    injection e with e
    subst e
    show ldI .i64 (some (.int .i64 (f x - 1))) _
    rw [ldI_some]
    have fin : ∀ (h2 : Heap) (m2 : List (Int × Value)), MapM h2 M .u32 m2 → (∀ y, m2.lookup y = if fup f x (f x - 1) y = 0 then none else some (.int .i64 (fup f x (f x - 1) y))) → m2.length ≤ m.length + 1 → Only [M] h h2 → K (.int .i64 0) h2 := by
      intro h2 m2 M2 l2 n2 O2
      refine hK e' h2 (map_only H O2 (by omega) ⟨_, M2, l2, by omega⟩ (fun y => ?_) fun y => ?_) O2
      · unfold fup
        have := H.fr y
        split <;> omega
      · unfold fup
        by_cases hy : y = x
        · subst hy; intro _; exact hx
        · rw [if_neg hy]; exact H.fx y
    refine bcase_of (fun e0 => ?_) fun e0 => ?_
    · have e0' : f x - 1 = 0 := by simpa using e0
      rw [ldM_some]
      refine del_map M1 fun h2 M2 O2 z2 => ?_
      refine fin h2 _ M2 (fun y => ?_) (Nat.le_trans mdel_len mset_len) (O1.trans O2 (by simp))
      rw [lookup_mdel, lookup_mset]
      unfold fup
      by_cases hy : y = x
      · rw [if_pos hy, if_pos hy, if_pos e0']
      · rw [if_neg hy, if_neg hy, if_neg hy]
        exact b' y
    · have e0' : f x - 1 ≠ 0 := by simpa using e0
      refine fin h1 _ M1 (fun y => ?_) mset_len O1
      rw [lookup_mset]
      unfold fup
      by_cases hy : y = x
      · rw [if_pos hy, if_pos hy, if_neg e0']
      · rw [if_neg hy, if_neg hy]
        exact b' y
end
end Go.Proofs.Ytipckkeaoncjiaa.Ev
