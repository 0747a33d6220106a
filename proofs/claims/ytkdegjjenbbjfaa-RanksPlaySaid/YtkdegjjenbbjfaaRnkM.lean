/- THE LAW OF RANKS PLAYED, its helpers: rows of items of the law's own; the best one; one taken out of a row. Conditions: none. -/
import Derived.Test.YtkdegjjenbbjfaaRnkK
import Derived.Test.YtkdegjjenbbjfaaL5G
namespace Go.Proofs.Ytkdegjjenbbjfaa.Ev
open Go

theorem newK_mono {h : Heap} {o : Obj} {K K' : Nat → Heap → Prop} (H : newK h o K) (hK : ∀ b h', K b h' → K' b h') : newK h o K' := hK _ _ H
theorem stK_mono {h : Heap} {a : Addr} {v : Value} {K K' : Heap → Prop} (H : stK h a v K) (hK : ∀ h', K h' → K' h') : stK h a v K' := by
  unfold stK at *
  cases hv : v.oneCell' with
  | true =>
    rw [hv] at H
    exact ⟨H.1, H.2.1, hK _ H.2.2⟩
  | false =>
    rw [hv] at H
    exact H.elim
/-- several elements more -/
theorem own_appn {h : Heap} {lo N by_ n : Nat} {z : Array Value} {p q : Option Addr} {l c : Nat} {cs new : List Value} {e : TypeId} {K : Option Addr → Nat → Nat → Heap → Prop}
    (H : Own h lo N p l c cs) (hq : match q with | some b => isRow h b new | none => n = 0) (hnew : new.length = n * N) (hz : z.size = N) (hcap : (l + n) * by_ ≤ 140737488355328) (hv : ∀ v ∈ new, v.oneCell' = true) (hlo : lo ≤ h.size)
    (hK : ∀ p' c' h', Own h' lo N p' (l + n) c' (cs ++ new) → Only (OwnB p) h h' → (∀ b ∈ OwnB p', b ∈ OwnB p ∨ h.size ≤ b) → K p' (l + n) c' h') :
    appK h e N by_ z p l c q n K := by
  obtain ⟨hlen, H⟩ := H
  refine ⟨new, hnew, hq, fun hle => ?_, fun hlt => ⟨cs, hlen, ?_, hcap, fun cap hc => ?_⟩⟩
  · rcases H with ⟨e, h0, h1⟩ | ⟨b, sp, rfl, h2, h3, h4, h5⟩
    · subst e
      have hn : n = 0 := by omega
      subst hn
      have hne : new = [] := List.length_eq_zero_iff.1 (by rw [hnew]; simp)
      subst hne
      refine ⟨by simp, hK none c h ⟨by rw [List.append_nil, hlen]; rfl, Or.inl ⟨rfl, by omega, h1⟩⟩ (Only.refl _ _) (by simp [OwnB])⟩
    · show stL ((⟨b, 0, none⟩ : Addr).add (l * N)) 0 new h _
      rw [add_mk, Nat.zero_add]
      have hsp : n * N ≤ sp.length := by
        rw [h4]
        exact Nat.mul_le_mul_right _ (by omega)
      refine stL_own new 0 _ h h5 (by simp; omega) hv fun h' A' O' z' => hK _ _ h' ⟨by simp [hlen, hnew, Nat.add_mul], Or.inr ⟨b, sp.drop (n * N), rfl, h2, hle, ?_, ?_⟩⟩ O' fun x hx => Or.inl hx
      · rw [List.length_drop, h4, show c - l = (c - (l + n)) + n by omega, Nat.add_mul]
        omega
      · rw [Nat.add_zero, ← hlen, List.take_left, hnew, List.drop_append, List.drop_eq_nil_of_le (by omega : cs.length ≤ cs.length + n * N)] at A'
        simpa using A'
  · rcases H with ⟨e, h0, -⟩ | ⟨b, sp, rfl, -, -, -, h5⟩
    · subst e
      exact h0
    · exact isRow_at h5 fun j v hj => by
        rw [Nat.zero_add, List.getElem?_append_left (List.getElem?_eq_some_iff.1 hj).1]
        exact hj
  · refine hK _ _ _ ⟨by simp [hlen, hnew, Nat.add_mul], Or.inr ⟨h.size, (Builtin.zeroCells z (cap - (l + n))).toList, rfl, hlo, hc, by rw [size_zeroCells, hz], ?_⟩⟩ ((Only.push_cells h _ e).mono (by simp)) fun x hx => Or.inr ?_
    · have := At.push h (cs.toArray ++ new.toArray ++ Builtin.zeroCells z (cap - (l + n))) e
      simpa using this
    · simp [OwnB] at hx
      omega
theorem flat_take : ∀ (M : List It) (a : Nat), flat (M.take a) = (flat M).take (a * 2)
  | [], a => by simp [flat]
  | x :: M, 0 => rfl
  | x :: M, a + 1 => by
    rw [show (a + 1) * 2 = a * 2 + 1 + 1 by omega]
    simp [flat, flat_take M a]
theorem flat_drop : ∀ (M : List It) (a : Nat), flat (M.drop a) = (flat M).drop (a * 2)
  | [], a => by simp [flat]
  | x :: M, 0 => rfl
  | x :: M, a + 1 => by
    rw [show (a + 1) * 2 = a * 2 + 1 + 1 by omega]
    simp [flat, flat_drop M a]
/-- one is taken out -/
theorem erase_app {h : Heap} {lo : Nat} {p : Option Addr} {c a : Nat} {M : List It} {K : Option Addr → Nat → Nat → Heap → Prop} (H : Own h lo 2 p M.length c (flat M)) (ha : a < M.length) (hM : M.length ≤ 100000) (hlo : lo ≤ h.size)
    (hK : ∀ p' c' h', Own h' lo 2 p' (M.eraseIdx a).length c' (flat (M.eraseIdx a)) → Only [] h h' → (∀ b ∈ OwnB p', h.size ≤ b) → K p' (M.eraseIdx a).length c' h') :
    (0 ≤ (a : Int) ∧ (a : Int) ≤ (Nat.cast c : Int) ∧ (0 ≤ (IntKind.wrap .i64 ((a : Int) + (1 : Int))) ∧ (IntKind.wrap .i64 ((a : Int) + (1 : Int))) ≤ (Nat.cast M.length : Int) ∧ appK h 57 2 16 #[(.int .i64 (0 : Int)), (.int .i64 (0 : Int))] none 0 0 (if c = 0 then p else Option.map (fun r => Addr.add r (0 * 2)) p) (Int.toNat (a : Int) - 0) (fun p33 l34 c35 h36 => ((.slice p M.length c) = ((.slice p M.length c) : Value) ∧ ((.int .i64 (a : Int)) = ((.int .i64 (a : Int)) : Value) ∧ ((.int .i64 (IntKind.wrap .i64 ((a : Int) + (1 : Int)))) = ((.int .i64 (IntKind.wrap .i64 ((a : Int) + (1 : Int)))) : Value) ∧ (0 ≤ (IntKind.wrap .i64 ((a : Int) + (1 : Int))) ∧ (IntKind.wrap .i64 ((a : Int) + (1 : Int))) ≤ (Nat.cast M.length : Int) ∧ ((.slice (if c = (Int.toNat (IntKind.wrap .i64 ((a : Int) + (1 : Int)))) then p else Option.map (fun r => Addr.add r ((Int.toNat (IntKind.wrap .i64 ((a : Int) + (1 : Int)))) * 2)) p) (M.length - (Int.toNat (IntKind.wrap .i64 ((a : Int) + (1 : Int))))) (c - (Int.toNat (IntKind.wrap .i64 ((a : Int) + (1 : Int)))))) = ((.slice (if c = (Int.toNat (IntKind.wrap .i64 ((a : Int) + (1 : Int)))) then p else Option.map (fun r => Addr.add r ((Int.toNat (IntKind.wrap .i64 ((a : Int) + (1 : Int)))) * 2)) p) (M.length - (Int.toNat (IntKind.wrap .i64 ((a : Int) + (1 : Int))))) (c - (Int.toNat (IntKind.wrap .i64 ((a : Int) + (1 : Int)))))) : Value) ∧ appK h36 57 2 16 #[(.int .i64 (0 : Int)), (.int .i64 (0 : Int))] p33 l34 c35 (if c = (Int.toNat (IntKind.wrap .i64 ((a : Int) + (1 : Int)))) then p else Option.map (fun r => Addr.add r ((Int.toNat (IntKind.wrap .i64 ((a : Int) + (1 : Int)))) * 2)) p) (M.length - (Int.toNat (IntKind.wrap .i64 ((a : Int) + (1 : Int))))) (fun p37 l38 c39 h40 => K p37 l38 c39 h40))))))))) := by
  have e1 : IntKind.wrap .i64 ((a : Int) + 1) = ((a + 1 : Nat) : Int) := by rw [wrap_i64 (by omega) (by omega)]; omega
  obtain ⟨b, ep, -⟩ := H.rd (j := a * 2) (by rw [flat_len]; omega)
  subst ep
  obtain ⟨hlen, H'⟩ := H
  rcases H' with ⟨h1, -⟩ | ⟨b', sp, h1, h2, h3, h4, h5⟩
  · cases h1
  · injection h1 with h1
    injection h1 with h1
    subst h1
    rw [e1]
    simp only [Int.toNat_natCast, Nat.sub_zero]
    have ep : (if c = 0 then (some ⟨b, 0, none⟩ : Option Addr) else Option.map (fun a => Addr.add a (0 * 2)) (some ⟨b, 0, none⟩)) = some ⟨b, 0, none⟩ := by
      split
      · rfl
      · simp [Addr.add]
    rw [ep]
    have lb := h5.lt
    refine ⟨by omega, by omega, by omega, by omega, ?_⟩
    refine own_appn (new := flat (M.take a)) (Own.nil h lo 2) ?_ (by rw [flat_len, List.length_take]; congr 1; omega) rfl (by omega) flat_one hlo fun p1 c1 h1 H1 O1 hp1 => ?_
    · exact isRow_at h5 fun j v hj => by
        rw [flat_take] at hj
        have hjl := (List.getElem?_eq_some_iff.1 hj).1
        rw [List.length_take] at hjl
        rw [List.getElem?_take_of_lt (by omega)] at hj
        rw [Nat.zero_add, List.getElem?_append_left (by omega)]
        exact hj
    rw [List.nil_append] at H1
    have hp1' : ∀ x ∈ OwnB p1, h.size ≤ x := fun x hx => by
      rcases hp1 x hx with h | h
      · simp [OwnB] at h
      · exact h
    have A1 := h5.only O1 (by simp [OwnB])
    refine ⟨by trivial, by trivial, by trivial, by omega, by omega, by trivial, ?_⟩
    have s1 := O1.size
    have hr : (M.drop (a + 1)).length = M.length - (a + 1) := by simp
    have ee : flat (M.take a) ++ flat (M.drop (a + 1)) = flat (M.eraseIdx a) := by rw [← flat_app, List.eraseIdx_eq_take_drop_succ]
    have el : 0 + a + (M.length - (a + 1)) = (M.eraseIdx a).length := by rw [List.length_eraseIdx, if_pos ha]; omega
    refine own_appn (new := flat (M.drop (a + 1))) H1 ?_ (by rw [flat_len, hr]) rfl (by omega) flat_one (by omega) fun p2 c2 h2 H2 O2 hp2 => ?_
    · by_cases hc : c = a + 1
      · rw [if_pos hc]
        have : M.drop (a + 1) = [] := List.length_eq_zero_iff.1 (by omega)
        rw [this]
        intro j v hj
        simp [flat] at hj
      · rw [if_neg hc]
        show isRow h1 ((⟨b, 0, none⟩ : Addr).add ((a + 1) * 2)) _
        rw [add_mk, Nat.zero_add]
        exact isRow_at A1 fun j v hj => by
          rw [flat_drop, List.getElem?_drop] at hj
          rw [List.getElem?_append_left (List.getElem?_eq_some_iff.1 hj).1]
          exact hj
    · rw [el, ee] at H2
      rw [el]
      refine hK p2 c2 h2 H2 ((O1.trans O2 fun x hx hl => ?_)) fun x hx => ?_
      · have := hp1' x hx
        omega
      · rcases hp2 x hx with h | h
        · exact hp1' x h
        · omega

/-- where the best one lies -/
def BestI (M : List It) (x : Int) : Prop := (x = -1 ∧ M = []) ∨ ∃ a, a < M.length ∧ x = (a : Int) ∧ ∀ k, k < M.length → bet (atL M k) (atL M a) = false
section
variable {h : Heap} {lo : Nat} {p : Option Addr} {c : Nat} {M : List It} {K : Value → Heap → Prop}
theorem best36 (H : Own h lo 2 p M.length c (flat M)) (hM : M.length ≤ 100000) (hK : ∀ x, BestI M x → K (.int .i64 x) h) : CallsH Try.prog 36 [.slice p M.length c] h K := by
  apply F36.spec
  unfold F36.w F36.J0 F36.wk3 F36.Jk3
  have rdM : ∀ k, k < M.length → ∃ b, p = some ⟨b, 0, none⟩ ∧ rd h ⟨b, k * 2, none⟩ = some (.int .i64 (atL M k).1) ∧ rd h ⟨b, k * 2 + 1, none⟩ = some (.int .i64 (atL M k).2) := fun k hk => by
    obtain ⟨b, e1, e2⟩ := H.rd (j := k * 2) (by rw [flat_len]; omega)
    obtain ⟨b', e3, e4⟩ := H.rd (j := k * 2 + 1) (by rw [flat_len]; omega)
    rw [e1] at e3
    injection e3 with e3
    injection e3 with e3
    subst e3
    exact ⟨b, e1, by rw [e2, flat_get0 hk], by rw [e4, flat_get1 hk]⟩
  have loop : ∀ (gas i : Nat) (x : Int), M.length - i < gas → i ≤ M.length → (x = -1 ∧ i = 0 ∨ ∃ a, a < i ∧ x = (a : Int) ∧ ∀ k, k < i → bet (atL M k) (atL M a) = false) → F36.wL3 gas p M.length c x (i : Int) h K := by
    intro gas
    induction gas with
    | zero => intro i x hg; omega
    | succ gas ih =>
      intro i x hg hi hx
      unfold F36.wL3 F36.JL3
      by_cases hlt : i < M.length
      · rw [decide_eq_true (by omega), bcase_true]
        have ei : IntKind.wrap .i64 ((i : Int) + 1) = ((i + 1 : Nat) : Int) := by rw [wrap_i64 (by omega) (by omega)]; omega
        rw [ei]
        rcases hx with ⟨rfl, rfl⟩ | ⟨a, ha, rfl, hb⟩
        · rw [show decide ((-1 : Int) < 0) = true from rfl, bcase_true]
          refine ih (0 + 1) 0 (by omega) (by omega) (Or.inr ⟨0, by omega, rfl, fun k hk => ?_⟩)
          rw [show k = 0 by omega]
          exact bet_self _
        · rw [decide_eq_false (by omega), bcase_false]
          obtain ⟨b, ep, r1, r2⟩ := rdM i hlt
          obtain ⟨b', ep', r3, r4⟩ := rdM a (by omega)
          rw [ep] at ep'
          injection ep' with ep'
          injection ep' with ep'
          subst ep'
          subst ep
          simp only [ptrK_some, add_mk, Nat.zero_add, Nat.add_zero, Int.toNat_natCast]
          have keep : bet (atL M i) (atL M a) = false → F36.wL3 gas (some ⟨b, 0, none⟩) M.length c (a : Int) ((i + 1 : Nat) : Int) h K := fun hn => ih (i + 1) a (by omega) (by omega) (Or.inr ⟨a, by omega, rfl, fun k hk => by
            by_cases e : k = i
            · rw [e]
              exact hn
            · exact hb k (by omega)⟩)
          have take : bet (atL M i) (atL M a) = true → F36.wL3 gas (some ⟨b, 0, none⟩) M.length c (i : Int) ((i + 1 : Nat) : Int) h K := fun hn => ih (i + 1) i (by omega) (by omega) (Or.inr ⟨i, by omega, rfl, fun k hk => by
            by_cases e : k = i
            · rw [e]
              exact bet_self _
            · exact bet_ntrans (hb k (by omega)) (bet_asym hn)⟩)
          unfold bet at keep take
          refine ⟨by omega, by omega, ldI_of r2 ⟨by omega, by omega, ldI_of r4 (bcase_of (fun e => ?_) fun e => ⟨by omega, by omega, ldI_of r2 ⟨by omega, by omega, ldI_of r4 (bcase_of (fun e2 => ⟨by omega, by omega, ldI_of r1 ⟨by omega, by omega, ldI_of r3 (bcase_of (fun e3 => ?_) fun e3 => ?_)⟩⟩) fun e2 => ?_)⟩⟩)⟩⟩
          · exact take (by rw [e, Bool.true_or])
          · exact take (by rw [e2, e3]; simp)
          · exact keep (by rw [e, e2, e3]; rfl)
          · exact keep (by rw [e, e2]; rfl)
      · rw [decide_eq_false (by omega), bcase_false]
        obtain rfl : i = M.length := by omega
        refine hK x ?_
        rcases hx with ⟨e, h0⟩ | ⟨a, ha, e, hb⟩
        · exact Or.inl ⟨e, List.length_eq_zero_iff.1 h0⟩
        · exact Or.inr ⟨a, ha, e, hb⟩
  exact ⟨M.length + 1, loop (M.length + 1) 0 (-1) (by omega) (by omega) (Or.inl ⟨rfl, rfl⟩)⟩
end
end Go.Proofs.Ytkdegjjenbbjfaa.Ev
