/- RANGING OVER A MAP's KEYS (maps.Keys' function value, called with whatever round). Conditions: the map stands; the round keeps its word. -/
import Derived.Test.YtipckkeaoncjiaaIterA
import Derived.Test.YtipckkeaoncjiaaTX3
namespace Go.Proofs.Ytipckkeaoncjiaa.Ev
open Go Go.RowKit Go.Maps

theorem u58 : Try.prog.underlying 58 = some (.int .u32) := by kernel_rfl
theorem u97 : Try.prog.underlying 97 = some (.map 58 3) := by kernel_rfl
theorem u61 : Try.prog.underlying 61 = some (.slice 58) := by kernel_rfl
set_option maxRecDepth 100000 in
set_option maxHeartbeats 2000000 in
theorem keysN {F : Fence} {n : Nat} (h66 : F.fn 66) (hro : F.round = none) (hn : 1 ≤ n) (l Bm b nn : Nat) (D0 : DataW Unit) (J : List Int → World → Prop)
    (hY : ∀ pre x W, J pre W → pre.length < Maps.size D0 → YieldAt F (n - 1) Try.prog l #[.int .u32 x] W fun e W' => e = .returned (.bool true) ∧ J (pre ++ [x]) W' ∧ KeepsWalks W W')
    (W : World) (hJ : AbidesZ W.heap.size J) (hm : W.cell? ⟨Bm, 0, none⟩ = some (.map (some b))) (hown : W.ownsMap Try.prog 58 anyR b nn D0) (h0 : J [] W) :
    CallsIn F n Try.prog 66 #[.func (.yield l) #[] #[], .pointer (some ⟨Bm, 0, none⟩)] W fun e W' => (∃ v, e = .returned v) ∧ ∃ ss : List Int, J ss W' ∧ ∃ left, CollI .u32 D0 left ss ∧ ∀ kl, left kl = false := by
  refine callsIn_of_wp Try.func66 rfl h66 ?_ hro
  simp only [Try.ntmps66, List.size_toArray, List.length_cons, List.length_nil, Nat.reduceAdd, Nat.reduceSub, Array.replicate_succ, Array.replicate_zero, List.push_toArray, List.append_toArray, List.nil_append, List.cons_append]
  gi_wp2_with (first
    | (gi_at_range; refine wpListIn_range_own _ rfl _ 97 rfl 58 3 (int_keyed u58) u97 _ b nn _ rfl hown ?_; intro w0 hrg0 hg0 hs0)
    | gi_in)
  go_frame
  gi_loopw [3] (fun _ wr => ∃ (left : Lit → Bool) (cnt : Nat) (ss : List Int), wr.ranges Try.prog 58 anyR b W.heap.size nn D0 left cnt ∧ ss.length + cnt ≤ Maps.size D0 ∧ CollI .u32 D0 left ss ∧ J ss wr)
    (fun _ wr => wr.rangeLeft b W.heap.size)
  case atStart =>
    have hf0 : FzK W w0 := by
      obtain ⟨es, clock, since, seen, c0, _, _, _, _, hr, _⟩ := hrg0
      exact FzK.one (r := W.heap.size) (o := .mapIter none 0 #[] 0) (fun k hk _ => hg0.block k hk (by simp)) (.inr rfl) (fun _ => rfl) hr rfl (by omega)
    exact ⟨_, _, [], hrg0, by simp, CollI.start .u32 D0, hJ [] W w0 none h0 hg0 hf0 (fun r e => by cases e)⟩
  case round =>
    obtain ⟨left, cnt, ss, hrg, hcs, hC, hJs⟩ := hrel
    gi_wp2_with (first
      | (gi_at_next; refine wpListIn_next_ranges _ rfl _ rfl 58 (int_keyed u58) anyR (Value.int .u32) (fun v : Value => v) (fun key kl hk => by obtain ⟨x, hx, _⟩ := Maps.keyOf_int_inv u58 hk; exact ⟨x, hx⟩) (fun v y hv => ⟨v, rfl⟩) b W.heap.size nn _ _ _ rfl hrg ?_ ?_)
      | gi_in)
    · intro hc0 hl0
      gi_wp2
      go_end0
      exact ⟨⟨_, rfl⟩, ss, hJs, left, hC, hl0⟩
    · intro x c kl yd yp w2 cnt2 hkey hlk hv hat hrg2 hlt hg2 hs2 hen
      obtain ⟨x', ex, rfl, _⟩ := Maps.keyOf_int_inv u58 hkey
      cases ex
      have hf2 : FzK wr w2 := by
        obtain ⟨es, clock, since, seen, c0, _, _, _, _, hr, _⟩ := hrg
        obtain ⟨es', clock', since', seen', c0', _, _, _, _, hr', _⟩ := hrg2
        exact FzK.one (r := W.heap.size) (o := .mapIter (some b) since seen c0) (fun k hk hne => hg2.block k hk (by simpa using hne)) (.inl hr) (fun _ => rfl) hr' rfl (by omega)
      have hJ2 : J ss w2 := hJ ss wr w2 (some W.heap.size) hJs hg2 hf2 (fun r e => by cases e; exact ⟨Nat.le_refl _, hrg.iter_walk⟩)
      obtain ⟨fn, tmps, assign, body, hy, hR⟩ := hY ss x w2 hJ2 (by omega)
      clear hs2 hf2
      gi_wp2
      refine hR.mono ?_
      rintro e W3 ⟨rfl, hJ3, hk3⟩
      gi_wp2
      have hrg3 := hrg2.of_walks hk3
      go_roundw
      case rel => exact ⟨_, cnt2, ss ++ [x], hrg3, by simp; omega, hC.step hlk hat, hJ3⟩
      case measure => rw [hrg3.left_eq, hrg.left_eq]; exact hlt
end Go.Proofs.Ytipckkeaoncjiaa.Ev
