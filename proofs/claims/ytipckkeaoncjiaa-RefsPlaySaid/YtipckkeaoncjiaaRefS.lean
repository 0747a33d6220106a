/- RefsPlay: a step on the stacks (a push, a pop), seen from the heap. Conditions: the refs, the stacks and the row of counts stand (PS). -/
import Derived.Test.YtipckkeaoncjiaaRefR
namespace Go.Proofs.Ytipckkeaoncjiaa.Ev
open Go

section
variable {h0 : Heap} {lo r M S B W : Nat} {h : Heap} {g : G10} {bk : BK} {p0 : Option Addr} {sl cap i sb a : Nat} {wh wo x : Int} {inn th : Bool}
theorem k20_pop (next : ∀ h g, PS h0 lo r M S B W h g → g.fm = g.f → g.Lm = g.L → g.N ≤ 4 * (i + 1) → g.MM.length ≤ i + 1 → bk p0 sl cap (some ⟨r, 0, none⟩) W g.q g.MM.length g.qc (some ⟨B, 0, none⟩) W W ((i + 1 : Nat) : Int) h)
    (H : PS h0 lo r M S B W h g) (AX : At h sb [.int .i64 wh, .int .i64 wo, .int .u32 x]) (hs : g.τ sb = 4) (ef : g.fm = g.f) {k : Nat} {l : List Int} {xv : Int} (ek : wo = k) (hk : k < W) (el : g.Lm k = l ++ [xv]) (eL : pup g.Lm k l = g.L)
    (hN : g.N ≤ 4 * i + 2) (hM : g.MM.length ≤ i) (hi : i < 100) (hW : W ≤ 4) (hin : inn = true ↔ 0 ≤ wo ∧ wo < W) :
    F10.wk20 bk p0 sl cap (some ⟨r, 0, none⟩) W g.q g.MM.length g.qc (some ⟨B, 0, none⟩) W W i ⟨sb, 0, none⟩ inn xv true true h (Lawful h0) := by
  subst ek
  have hlen : (g.Lm k).length = l.length + 1 := by rw [el]; simp
  have hb := H.T.len k hk
  unfold F10.wk20 F10.Jk20
  rw [show (!(true == true)) = false from rfl, bcase_false, show (!true) = false from rfl, bcase_false, bcase_true, sb1 AX, ldI_some]
  refine H.T.ldT rfl hk ?_
  rw [ldI_some]
  have w1 : IntKind.wrap .i64 (((g.Lm k).length : Int) - 1) = (l.length : Int) := by rw [wrap_i64 (by omega) (by omega)]; omega
  rw [w1]
  refine H.T.ldT rfl hk ((H.T.own k hk).ints.ld2 rfl (by omega) ?_)
  have ex : (g.Lm k).getD l.length 0 = xv := by rw [el]; simp [List.getD]
  rw [ex, show (xv != xv) = false by simp, bcase_false, ldI_some, ldI_some]
  have Ow := H.T.own k hk
  obtain ⟨b, sp, hpb, hlob, h3, h4, h5⟩ : ∃ (b : Nat) (sp : List Value), g.P k = some ⟨b, 0, none⟩ ∧ lo ≤ b ∧ (g.Lm k).length ≤ g.C k ∧ sp.length = (g.C k - (g.Lm k).length) * 1 ∧ At h b ((g.Lm k).map (Value.int .u32) ++ sp) := by
    rcases Ow.2 with ⟨_, e1, _⟩ | h
    · omega
    · exact h
  refine H.T.ldT rfl hk ⟨by omega, by omega, ?_⟩
  rw [ptrK_some]
  refine ⟨by omega, by omega, ?_⟩
  have ep : Option.map (fun a => Addr.add a (0 * 1)) (g.P k) = g.P k := by rw [hpb]; simp
  rw [add_mk, add_mk, show 0 + Int.toNat (k : Int) * 1 + 0 = k by omega, if_neg (by omega : ¬ g.C k = 0), ep, Nat.sub_zero, Int.toNat_natCast, Nat.sub_zero]
  refine stK_at H.T.T (by rw [rowV_len]; exact hk) rfl fun h6 A6 O6 z6 => ?_
  have nbB : b ≠ B := (H.T.sep k hk b (by rw [hpb]; simp [OwnB])).1
  have h5' := h5.only O6 (by simpa using nbB)
  have e1 : pup g.P k (g.P k) = g.P := by funext j; unfold pup; split <;> simp_all
  have e2 : pup g.C k (g.C k) = g.C := by funext j; unfold pup; split <;> simp_all
  have A6' : At h6 B (rowV W fun j => .slice (pup g.P k (g.P k) j) (pup g.Lm k l j).length (pup g.C k (g.C k) j)) := by
    rw [← head_row]
    exact A6
  have T6 := H.T.set hk (O6.mono (T := B :: OwnB (g.P k)) (by intro b hb _; simp at hb; simp [hb])) (Nat.le_refl _) (by omega) A6' ⟨by simp, .inr ⟨b, .int .u32 xv :: sp, hpb, hlob, by omega, by simp; omega, by rw [el] at h5'; simpa using h5'⟩⟩ fun b hb => .inl hb
  rw [e1, e2] at T6
  have X6 : ∀ b ∈ [B], b < h.size → g.τ b = 2 := fun b hb _ => by simp at hb; subst hb; exact H.t2
  have H6 := H.opT O6 X6 (fun b hb _ => by simp at hb; subst hb; exact H.T.ge) T6 (Nat.le_refl _) fun k hk b hb => .inl hb
  have out := k46 next H6 (AX.stay hs O6 X6 (by decide)) ef eL (by show g.N ≤ _; omega) (by show g.MM.length ≤ _; omega) hi hW hin
  exact out
/-- a push on the law's own stack -/
theorem own_push (next : ∀ h g, PS h0 lo r M S B W h g → g.fm = g.f → g.Lm = g.L → g.N ≤ 4 * (i + 1) → g.MM.length ≤ i + 1 → bk p0 sl cap (some ⟨r, 0, none⟩) W g.q g.MM.length g.qc (some ⟨B, 0, none⟩) W W ((i + 1 : Nat) : Int) h)
    (H : PS h0 lo r M S B W h g) (AX : At h sb [.int .i64 wh, .int .i64 wo, .int .u32 x]) (hs : g.τ sb = 4) (ef : g.fm = g.f) {k : Nat} (ek : wo = k) (hk : k < W) (eL : pup g.Lm k (g.Lm k ++ [x]) = g.L)
    (hN : g.N ≤ 4 * i + 2) (hM : g.MM.length ≤ i) (hi : i < 100) (hW : W ≤ 4) (hin : inn = true ↔ 0 ≤ wo ∧ wo < W) :
    ldI .i64 (rd h (Addr.add ⟨sb, 0, none⟩ 1)) (fun n42 => ldI .i64 (rd h (Addr.add ⟨sb, 0, none⟩ 1)) (fun n43 => ptrK (some ⟨B, 0, none⟩) (fun a44 => (0 ≤ n43 ∧ n43 < (Nat.cast W : Int) ∧ ldS (rd h (Addr.add a44 (Int.toNat n43 * 1))) (fun p45 l46 c47 => ldI .u32 (rd h (Addr.add ⟨sb, 0, none⟩ 2)) (fun n48 => newK h (.cells #[(.int .u32 n48)] 58) (fun b49 h50 => ((.slice (some ⟨B, 0, none⟩) W W) = ((.slice (some ⟨B, 0, none⟩) W W) : Value) ∧ ((.pointer (some (Addr.add ⟨sb, 0, none⟩ 1))) = ((.pointer (some (Addr.add ⟨sb, 0, none⟩ 1))) : Value) ∧ ldI .i64 (rd h50 (Addr.add ⟨sb, 0, none⟩ 1)) (fun n51 => ((.int .i64 n51) = ((.int .i64 n42) : Value) ∧ ((.slice (some ⟨B, 0, none⟩) W W) = ((.slice (some ⟨B, 0, none⟩) W W) : Value) ∧ ((.pointer (some (Addr.add ⟨sb, 0, none⟩ 1))) = ((.pointer (some (Addr.add ⟨sb, 0, none⟩ 1))) : Value) ∧ ldI .i64 (rd h50 (Addr.add ⟨sb, 0, none⟩ 1)) (fun n52 => ((.int .i64 n52) = ((.int .i64 n43) : Value) ∧ ptrK (some ⟨B, 0, none⟩) (fun a53 => (0 ≤ n43 ∧ n43 < (Nat.cast W : Int) ∧ ((.pointer (some (Addr.add a53 (Int.toNat n43 * 1)))) = ((.pointer (some (Addr.add a44 (Int.toNat n43 * 1)))) : Value) ∧ ldS (rd h50 (Addr.add a44 (Int.toNat n43 * 1))) (fun p54 l55 c56 => ((.slice p54 l55 c56) = ((.slice p45 l46 c47) : Value) ∧ appK h50 58 1 4 #[(.int .u32 (0 : Int))] p45 l46 c47 (some (Addr.mk b49 0 none)) 1 (fun p57 l58 c59 h60 => ((.slice (some ⟨B, 0, none⟩) W W) = ((.slice (some ⟨B, 0, none⟩) W W) : Value) ∧ ((.pointer (some (Addr.add ⟨sb, 0, none⟩ 1))) = ((.pointer (some (Addr.add ⟨sb, 0, none⟩ 1))) : Value) ∧ ldI .i64 (rd h60 (Addr.add ⟨sb, 0, none⟩ 1)) (fun n61 => ((.int .i64 n61) = ((.int .i64 n42) : Value) ∧ ptrK (some ⟨B, 0, none⟩) (fun a62 => (0 ≤ n42 ∧ n42 < (Nat.cast W : Int) ∧ stK h60 (Addr.add (Addr.add a62 (Int.toNat n42 * 1)) 0) (.slice p57 l58 c59) (fun h63 =>
      F10.wk46 bk p0 sl cap (some ⟨r, 0, none⟩) W g.q g.MM.length g.qc (some ⟨B, 0, none⟩) W W i ⟨sb, 0, none⟩ inn h63 (Lawful h0))))))))))))))))))))))))))))) := by
  subst ek
  rw [sb1 AX, ldI_some, ldI_some, ptrK_some]
  refine ⟨by omega, by omega, ?_⟩
  have rk : ∀ {h' : Heap}, At h' B (rowV W fun k => .slice (g.P k) (g.Lm k).length (g.C k)) → rd h' (Addr.add ⟨B, 0, none⟩ (Int.toNat (k : Int) * 1)) = some (.slice (g.P k) (g.Lm k).length (g.C k)) := fun A => by
    rw [add_mk, show 0 + Int.toNat (k : Int) * 1 = k by omega, A.rd, rowV_get hk]
  rw [rk H.T.T, ldS_some, sb2 AX, ldI_some]
  refine newK_at fun h1 A1 O1 z1 => ⟨rfl, rfl, ?_⟩
  have AX1 := AX.only O1 (by simp)
  have T1 := H.T.new O1
  rw [sb1 AX1, ldI_some]
  refine ⟨rfl, rfl, rfl, ?_⟩
  rw [ldI_some]
  refine ⟨rfl, ?_⟩
  rw [ptrK_some]
  refine ⟨by omega, by omega, rfl, ?_⟩
  rw [rk T1.T, ldS_some]
  refine ⟨rfl, ?_⟩
  have hb := T1.len k hk
  have hsz := H.hsz
  refine own_app (lo := lo) (T1.own k hk) A1 rfl rfl (by omega) (by simp [Value.oneCell']) (by omega) fun p' c' h2 Ow O2 hp' => ⟨rfl, rfl, ?_⟩
  have nsb : sb ∉ OwnB (g.P k) := fun hb => by have := H.t2p k hk sb hb; omega
  have nB : B ∉ OwnB (g.P k) := fun hb => (H.T.sep k hk B hb).1 rfl
  have AX2 := AX1.only O2 nsb
  have T2 := T1.T.only O2 nB
  rw [sb1 AX2, ldI_some]
  refine ⟨rfl, ?_⟩
  rw [ptrK_some]
  refine ⟨by omega, by omega, ?_⟩
  rw [add_mk, add_mk, show 0 + Int.toNat (k : Int) * 1 + 0 = k by omega]
  refine stK_at T2 (by rw [rowV_len]; exact hk) rfl fun h3 A3 O3 z3 => ?_
  have O13 : Only (B :: OwnB (g.P k)) h h3 := ((O1.mono (T := B :: OwnB (g.P k)) (by simp)).trans O2 (by intro b hb _; simp [hb])).trans O3 (by intro b hb _; simp at hb; simp [hb])
  have hp3 : ∀ b ∈ OwnB p', b ∈ OwnB (g.P k) ∨ h.size ≤ b := fun b hb => by
    rcases hp' b hb with h | h
    · exact .inl h
    · exact .inr (by omega)
  have A3' : At h3 B (rowV W fun j => .slice (pup g.P k p' j) (pup g.Lm k (g.Lm k ++ [x]) j).length (pup g.C k c' j)) := by
    rw [← head_row, List.length_append, List.length_singleton]
    exact A3
  have T3 := H.T.set hk O13 (N' := g.N + 1) (by omega) (by simp; omega) A3' (by
    rw [List.length_append, List.length_singleton, List.map_append, List.map_singleton]
    refine Ow.onlyC O3 fun b hb _ hbS => ?_
    simp at hbS
    subst hbS
    rcases hp' b hb with h | h
    · exact nB h
    · have := H.T.lt; omega) hp3
  have X3 : ∀ b ∈ B :: OwnB (g.P k), b < h.size → g.τ b = 2 := fun b hb _ => by
    rcases List.mem_cons.1 hb with rfl | hb
    · exact H.t2
    · exact H.t2p k hk b hb
  have H3 := H.opT O13 X3 (fun b hb _ => by
    rcases List.mem_cons.1 hb with rfl | hb
    · exact H.T.ge
    · exact (H.T.lt.2 k hk b hb).1) T3 (by omega) fun j hj b hb => by
    unfold pup at hb
    by_cases e : j = k
    · rw [if_pos e] at hb; rw [e]; exact hp3 b hb
    · rw [if_neg e] at hb; exact .inl hb
  have out := k46 next H3 (AX.stay hs O13 X3 (by decide)) ef eL (by show g.N + 1 ≤ _; omega) (by show g.MM.length ≤ _; omega) hi hW hin
  exact out
end
end Go.Proofs.Ytipckkeaoncjiaa.Ev
