/- RefsPlay, its helpers: rows of counts of the law's own; one put in, one taken out. Conditions: none. -/
import Derived.Test.YtipckkeaoncjiaaRefN
namespace Go.Proofs.Ytipckkeaoncjiaa.Ev
open Go

abbrev It := Int × Int
def atL (L : List It) (i : Nat) : It := L.getD i (0, 0)
def flat : List It → List Value
  | [] => []
  | x :: L => .int .u32 x.1 :: .int .i64 x.2 :: flat L
theorem flat_len : ∀ (L : List It), (flat L).length = L.length * 2
  | [] => rfl
  | x :: L => by simp [flat, flat_len L]; omega
theorem flat_get0 : ∀ {L : List It} {i : Nat}, i < L.length → (flat L)[i * 2]? = some (.int .u32 (atL L i).1)
  | x :: L, 0, _ => rfl
  | x :: L, i + 1, h => by
    rw [show (i + 1) * 2 = i * 2 + 1 + 1 by omega]
    simp only [flat, List.getElem?_cons_succ]
    rw [flat_get0 (by simpa using h)]
    rfl
theorem flat_get1 : ∀ {L : List It} {i : Nat}, i < L.length → (flat L)[i * 2 + 1]? = some (.int .i64 (atL L i).2)
  | x :: L, 0, _ => rfl
  | x :: L, i + 1, h => by
    rw [show (i + 1) * 2 + 1 = i * 2 + 1 + 1 + 1 by omega]
    simp only [flat, List.getElem?_cons_succ]
    rw [flat_get1 (by simpa using h)]
    rfl
theorem flat_app : ∀ (L M : List It), flat (L ++ M) = flat L ++ flat M
  | [], M => rfl
  | x :: L, M => by simp [flat, flat_app L M]
theorem flat_set0 : ∀ (L : List It) (i : Nat) (v : Int), (flat L).set (i * 2) (.int .u32 v) = flat (L.set i (v, (atL L i).2))
  | [], _, _ => by simp [flat]
  | x :: L, 0, v => rfl
  | x :: L, i + 1, v => by
    rw [show (i + 1) * 2 = i * 2 + 1 + 1 by omega]
    simp only [flat, List.set_cons_succ]
    rw [flat_set0 L i v]
    rfl
theorem flat_set1 : ∀ (L : List It) (i : Nat) (v : Int), (flat L).set (i * 2 + 1) (.int .i64 v) = flat (L.set i ((atL L i).1, v))
  | [], _, _ => by simp [flat]
  | x :: L, 0, v => rfl
  | x :: L, i + 1, v => by
    rw [show (i + 1) * 2 + 1 = i * 2 + 1 + 1 + 1 by omega]
    simp only [flat, List.set_cons_succ]
    rw [flat_set1 L i v]
    rfl
theorem flat_one {L : List It} : ∀ v ∈ flat L, v.oneCell' = true := by
  induction L with
  | nil => simp [flat]
  | cons x L ih =>
    intro v hv
    simp only [flat, List.mem_cons] at hv
    rcases hv with rfl | rfl | hv
    · rfl
    · rfl
    · exact ih v hv
/-- several elements more -/
theorem own_appn {h : Heap} {lo N by_ n : Nat} {z : Array Value} {p q : Option Addr} {l c : Nat} {cs new : List Value} {e : TypeId} {K : Option Addr → Nat → Nat → Heap → Prop}
    (H : Own h lo N p l c cs) (hq : match q with | some b => isRow h b new | none => n = 0) (hnew : new.length = n * N) (hz : z.size = N) (hcap : (l + n) * by_ ≤ 140737488355328) (hv : ∀ v ∈ new, v.oneCell' = true) (hlo : lo ≤ h.size)
    (hK : ∀ p' c' h', Own h' lo N p' (l + n) c' (cs ++ new) → Only (OwnB p) h h' → (∀ b ∈ OwnB p', b ∈ OwnB p ∨ h.size ≤ b) → K p' (l + n) c' h') :
    appK h e N by_ z p l c q n K := by
  obtain ⟨hlen, H⟩ := H
  refine ⟨new, hnew, hq, fun hle => ?_, fun hlt => ⟨cs, hlen, ?_, hcap, fun cap hc => ?_⟩⟩
  · rcases H with ⟨e, h0, h1⟩ | ⟨b, sp, rfl, h2, h3, h4, h5⟩
    · subst e
      have hn : n = 0 := by omega
      subst hn
      have hne : new = [] := List.length_eq_zero_iff.1 (by rw [hnew]; simp)
      subst hne
      refine ⟨by simp, hK none c h ⟨by rw [List.append_nil, hlen]; rfl, Or.inl ⟨rfl, by omega, h1⟩⟩ (Only.refl _ _) (by simp [OwnB])⟩
    · show stL ((⟨b, 0, none⟩ : Addr).add (l * N)) 0 new h _
      rw [add_mk, Nat.zero_add]
      have hsp : n * N ≤ sp.length := by
        rw [h4]
        exact Nat.mul_le_mul_right _ (by omega)
      refine stL_own new 0 _ h h5 (by simp; omega) hv fun h' A' O' z' => hK _ _ h' ⟨by simp [hlen, hnew, Nat.add_mul], Or.inr ⟨b, sp.drop (n * N), rfl, h2, hle, ?_, ?_⟩⟩ O' fun x hx => Or.inl hx
      · rw [List.length_drop, h4, show c - l = (c - (l + n)) + n by omega, Nat.add_mul]
        omega
      · rw [Nat.add_zero, ← hlen, List.take_left, hnew, List.drop_append, List.drop_eq_nil_of_le (by omega : cs.length ≤ cs.length + n * N)] at A'
        simpa using A'
  · rcases H with ⟨e, h0, -⟩ | ⟨b, sp, rfl, -, -, -, h5⟩
    · subst e
      exact h0
    · exact isRow_at h5 fun j v hj => by
        rw [Nat.zero_add, List.getElem?_append_left (List.getElem?_eq_some_iff.1 hj).1]
        exact hj
  · refine hK _ _ _ ⟨by simp [hlen, hnew, Nat.add_mul], Or.inr ⟨h.size, (Builtin.zeroCells z (cap - (l + n))).toList, rfl, hlo, hc, by rw [size_zeroCells, hz], ?_⟩⟩ ((Only.push_cells h _ e).mono (by simp)) fun x hx => Or.inr ?_
    · have := At.push h (cs.toArray ++ new.toArray ++ Builtin.zeroCells z (cap - (l + n))) e
      simpa using this
    · simp [OwnB] at hx
      omega
theorem flat_take : ∀ (M : List It) (a : Nat), flat (M.take a) = (flat M).take (a * 2)
  | [], a => by simp [flat]
  | x :: M, 0 => rfl
  | x :: M, a + 1 => by
    rw [show (a + 1) * 2 = a * 2 + 1 + 1 by omega]
    simp [flat, flat_take M a]
theorem flat_drop : ∀ (M : List It) (a : Nat), flat (M.drop a) = (flat M).drop (a * 2)
  | [], a => by simp [flat]
  | x :: M, 0 => rfl
  | x :: M, a + 1 => by
    rw [show (a + 1) * 2 = a * 2 + 1 + 1 by omega]
    simp [flat, flat_drop M a]
/-- one is taken out -/
theorem erase_app {h : Heap} {lo : Nat} {p : Option Addr} {c a : Nat} {M : List It} {K : Option Addr → Nat → Nat → Heap → Prop} (H : Own h lo 2 p M.length c (flat M)) (ha : a < M.length) (hM : M.length ≤ 100000) (hlo : lo ≤ h.size)
    (hK : ∀ p' c' h', Own h' lo 2 p' (M.eraseIdx a).length c' (flat (M.eraseIdx a)) → Only [] h h' → (∀ b ∈ OwnB p', h.size ≤ b) → K p' (M.eraseIdx a).length c' h') :
    (0 ≤ (a : Int) ∧ (a : Int) ≤ (Nat.cast c : Int) ∧ (0 ≤ (IntKind.wrap .i64 ((a : Int) + (1 : Int))) ∧ (IntKind.wrap .i64 ((a : Int) + (1 : Int))) ≤ (Nat.cast M.length : Int) ∧ appK h 74 2 16 #[(.int .u32 (0 : Int)), (.int .i64 (0 : Int))] none 0 0 (if c = 0 then p else Option.map (fun r => Addr.add r (0 * 2)) p) (Int.toNat (a : Int) - 0) (fun p33 l34 c35 h36 => ((.slice p M.length c) = ((.slice p M.length c) : Value) ∧ ((.int .i64 (a : Int)) = ((.int .i64 (a : Int)) : Value) ∧ ((.int .i64 (IntKind.wrap .i64 ((a : Int) + (1 : Int)))) = ((.int .i64 (IntKind.wrap .i64 ((a : Int) + (1 : Int)))) : Value) ∧ (0 ≤ (IntKind.wrap .i64 ((a : Int) + (1 : Int))) ∧ (IntKind.wrap .i64 ((a : Int) + (1 : Int))) ≤ (Nat.cast M.length : Int) ∧ ((.slice (if c = (Int.toNat (IntKind.wrap .i64 ((a : Int) + (1 : Int)))) then p else Option.map (fun r => Addr.add r ((Int.toNat (IntKind.wrap .i64 ((a : Int) + (1 : Int)))) * 2)) p) (M.length - (Int.toNat (IntKind.wrap .i64 ((a : Int) + (1 : Int))))) (c - (Int.toNat (IntKind.wrap .i64 ((a : Int) + (1 : Int)))))) = ((.slice (if c = (Int.toNat (IntKind.wrap .i64 ((a : Int) + (1 : Int)))) then p else Option.map (fun r => Addr.add r ((Int.toNat (IntKind.wrap .i64 ((a : Int) + (1 : Int)))) * 2)) p) (M.length - (Int.toNat (IntKind.wrap .i64 ((a : Int) + (1 : Int))))) (c - (Int.toNat (IntKind.wrap .i64 ((a : Int) + (1 : Int)))))) : Value) ∧ appK h36 74 2 16 #[(.int .u32 (0 : Int)), (.int .i64 (0 : Int))] p33 l34 c35 (if c = (Int.toNat (IntKind.wrap .i64 ((a : Int) + (1 : Int)))) then p else Option.map (fun r => Addr.add r ((Int.toNat (IntKind.wrap .i64 ((a : Int) + (1 : Int)))) * 2)) p) (M.length - (Int.toNat (IntKind.wrap .i64 ((a : Int) + (1 : Int))))) (fun p37 l38 c39 h40 => K p37 l38 c39 h40))))))))) := by
  have e1 : IntKind.wrap .i64 ((a : Int) + 1) = ((a + 1 : Nat) : Int) := by rw [wrap_i64 (by omega) (by omega)]; omega
  obtain ⟨b, ep, -⟩ := H.rd (j := a * 2) (by rw [flat_len]; omega)
  subst ep
  obtain ⟨hlen, H'⟩ := H
  rcases H' with ⟨h1, -⟩ | ⟨b', sp, h1, h2, h3, h4, h5⟩
  · cases h1
  · injection h1 with h1
    injection h1 with h1
    subst h1
    rw [e1]
    simp only [Int.toNat_natCast, Nat.sub_zero]
    have ep : (if c = 0 then (some ⟨b, 0, none⟩ : Option Addr) else Option.map (fun a => Addr.add a (0 * 2)) (some ⟨b, 0, none⟩)) = some ⟨b, 0, none⟩ := by
      split
      · rfl
      · simp [Addr.add]
    rw [ep]
    have lb := h5.lt
    refine ⟨by omega, by omega, by omega, by omega, ?_⟩
    refine own_appn (new := flat (M.take a)) (Own.nil h lo 2) ?_ (by rw [flat_len, List.length_take]; congr 1; omega) rfl (by omega) flat_one hlo fun p1 c1 h1 H1 O1 hp1 => ?_
    · exact isRow_at h5 fun j v hj => by
        rw [flat_take] at hj
        have hjl := (List.getElem?_eq_some_iff.1 hj).1
        rw [List.length_take] at hjl
        rw [List.getElem?_take_of_lt (by omega)] at hj
        rw [Nat.zero_add, List.getElem?_append_left (by omega)]
        exact hj
    rw [List.nil_append] at H1
    have hp1' : ∀ x ∈ OwnB p1, h.size ≤ x := fun x hx => by
      rcases hp1 x hx with h | h
      · simp [OwnB] at h
      · exact h
    have A1 := h5.only O1 (by simp [OwnB])
    refine ⟨by trivial, by trivial, by trivial, by omega, by omega, by trivial, ?_⟩
    have s1 := O1.size
    have hr : (M.drop (a + 1)).length = M.length - (a + 1) := by simp
    have ee : flat (M.take a) ++ flat (M.drop (a + 1)) = flat (M.eraseIdx a) := by rw [← flat_app, List.eraseIdx_eq_take_drop_succ]
    have el : 0 + a + (M.length - (a + 1)) = (M.eraseIdx a).length := by rw [List.length_eraseIdx, if_pos ha]; omega
    refine own_appn (new := flat (M.drop (a + 1))) H1 ?_ (by rw [flat_len, hr]) rfl (by omega) flat_one (by omega) fun p2 c2 h2 H2 O2 hp2 => ?_
    · by_cases hc : c = a + 1
      · rw [if_pos hc]
        have : M.drop (a + 1) = [] := List.length_eq_zero_iff.1 (by omega)
        rw [this]
        intro j v hj
        simp [flat] at hj
      · rw [if_neg hc]
        show isRow h1 ((⟨b, 0, none⟩ : Addr).add ((a + 1) * 2)) _
        rw [add_mk, Nat.zero_add]
        exact isRow_at A1 fun j v hj => by
          rw [flat_drop, List.getElem?_drop] at hj
          rw [List.getElem?_append_left (List.getElem?_eq_some_iff.1 hj).1]
          exact hj
    · rw [el, ee] at H2
      rw [el]
      refine hK p2 c2 h2 H2 ((O1.trans O2 fun x hx hl => ?_)) fun x hx => ?_
      · have := hp1' x hx
        omega
      · rcases hp2 x hx with h | h
        · exact hp1' x h
        · omega

/-- one is put in -/
def insM (M : List It) (a : Nat) (x : It) : List It := M.take a ++ x :: M.drop a
theorem insM_len {M : List It} {a : Nat} {x : It} (ha : a ≤ M.length) : (insM M a x).length = M.length + 1 := by
  unfold insM
  simp
  omega
theorem ins_app {h : Heap} {lo X : Nat} {p : Option Addr} {c a : Nat} {M : List It} {w0 w1 : Value} {x : Int} {K : Option Addr → Nat → Nat → Heap → Prop} (H : Own h lo 2 p M.length c (flat M)) (ha : a ≤ M.length) (hM : M.length ≤ 100000) (hlo : lo ≤ h.size)
    (AX : At h X [w0, w1, .int .u32 x]) (hX : X ∉ OwnB p)
    (hK : ∀ p' c' h', Own h' lo 2 p' (M.length + 1) c' (flat (insM M a (x, 0))) → Only (OwnB p) h h' → (∀ b ∈ OwnB p', b ∈ OwnB p ∨ h.size ≤ b) → K p' (M.length + 1) c' h') :
    newK h (.cells #[(.int .u32 (0 : Int)), (.int .i64 (0 : Int))] 74) (fun b5 h6 => appK h6 74 2 16 #[(.int .u32 (0 : Int)), (.int .i64 (0 : Int))] p M.length c (some (Addr.mk b5 0 none)) 1 (fun p7 l8 c9 h10 => (0 ≤ (IntKind.wrap .i64 ((a : Int) + (1 : Int))) ∧ (IntKind.wrap .i64 ((a : Int) + (1 : Int))) ≤ (Nat.cast l8 : Int) ∧ (0 ≤ (a : Int) ∧ (a : Int) ≤ (Nat.cast l8 : Int) ∧ copyK h10 2 (if c9 = (Int.toNat (IntKind.wrap .i64 ((a : Int) + (1 : Int)))) then p7 else Option.map (fun a' => Addr.add a' ((Int.toNat (IntKind.wrap .i64 ((a : Int) + (1 : Int)))) * 2)) p7) (l8 - (Int.toNat (IntKind.wrap .i64 ((a : Int) + (1 : Int))))) (if c9 = (Int.toNat (a : Int)) then p7 else Option.map (fun a' => Addr.add a' ((Int.toNat (a : Int)) * 2)) p7) (l8 - (Int.toNat (a : Int))) (fun _ h12 => ldI .u32 (rd h12 (Addr.add ⟨X, 0, none⟩ 2)) (fun n13 => ptrK p7 (fun a14 => (0 ≤ (a : Int) ∧ (a : Int) < (Nat.cast l8 : Int) ∧ stK h12 (Addr.add (Addr.add a14 (Int.toNat (a : Int) * 2)) 0) (.int .u32 n13) (fun h15 => stK h15 (Addr.add (Addr.add a14 (Int.toNat (a : Int) * 2)) 1) (.int .i64 (0 : Int)) (fun h16 => K p7 l8 c9 h16)))))))))) := by
  have e1 : IntKind.wrap .i64 ((a : Int) + 1) = ((a + 1 : Nat) : Int) := by rw [wrap_i64 (by omega) (by omega)]; omega
  rw [e1]
  simp only [Int.toNat_natCast]
  refine newK_at fun h1 A1 O1 z1 => ?_
  refine own_app (H.only O1 (by simp)) A1 rfl rfl (by omega) (by intro v hv; simp at hv; rcases hv with rfl | rfl <;> rfl) (by omega) fun p' c' h2 H2 O2 hp2 => ?_
  have AX2 := (AX.only O1 (by simp)).only O2 hX
  have hX' : X ∉ OwnB p' := fun hb => by
    rcases hp2 X hb with h | h
    · exact hX h
    · have := AX.lt; omega
  have hs := O2.size
  obtain ⟨hl, H2⟩ := H2
  rcases H2 with ⟨_, h0, _⟩ | ⟨b, sp, rfl, hlo2, hc, hsp, A2⟩
  · omega
  refine ⟨by omega, by omega, by omega, by omega, ?_⟩
  have fl := flat_len M
  have new_len : (flat (M.drop a)).length = (M.length - a) * 2 := by rw [flat_len, List.length_drop]
  have mn : Nat.min (M.length + 1 - a) (M.length + 1 - (a + 1)) = M.length - a := by
    show min (M.length + 1 - a) (M.length + 1 - (a + 1)) = M.length - a
    omega
  refine ⟨flat (M.drop a), by rw [new_len, mn], ?_, ?_⟩
  · rw [if_neg (by omega)]
    show isRow h2 ((⟨b, 0, none⟩ : Addr).add (a * 2)) _
    rw [add_mk, Nat.zero_add]
    exact isRow_at A2 fun j v hj => by
      have hjl := (List.getElem?_eq_some_iff.1 hj).1
      rw [flat_drop, List.getElem?_drop] at hj
      rw [List.append_assoc, List.getElem?_append_left (by omega)]
      exact hj
  · have key : ∀ h3, At h3 b (flat (M.take a ++ [atL (M ++ [(0, 0)]) a]) ++ flat (M.drop a) ++ sp) → Only [b] h2 h3 → ldI .u32 (rd h3 (Addr.add ⟨X, 0, none⟩ 2)) (fun n13 => ptrK (some ⟨b, 0, none⟩) (fun a14 => (0 ≤ (a : Int) ∧ (a : Int) < (Nat.cast (M.length + 1) : Int) ∧ stK h3 (Addr.add (Addr.add a14 (a * 2)) 0) (.int .u32 n13) (fun h15 => stK h15 (Addr.add (Addr.add a14 (a * 2)) 1) (.int .i64 (0 : Int)) (fun h16 => K (some ⟨b, 0, none⟩) (M.length + 1) c' h16))))) := by
      intro h3 A3 O3
      have hb : X ≠ b := fun e => hX' (by subst e; simp [OwnB])
      rw [add_mk, show rd h3 ⟨X, 0 + 2, none⟩ = some (.int .u32 x) from (AX2.only O3 (by simpa using hb)).rd 2, ldI_some, ptrK_some]
      refine ⟨by omega, by omega, ?_⟩
      rw [add_mk, add_mk, Nat.zero_add, Nat.add_zero]
      have tl : (flat (M.take a)).length = a * 2 := by rw [flat_len, List.length_take, Nat.min_eq_left ha]
      rw [flat_app] at A3
      generalize atL (M ++ [(0, 0)]) a = y at A3
      obtain ⟨y0, y1⟩ := y
      refine stK_at A3 (by simp [flat, tl] <;> omega) rfl fun h4 A4 O4 _ => ?_
      rw [add_mk]
      refine stK_at A4 (by simp [flat, tl] <;> omega) rfl fun h5 A5 O5 _ => ?_
      have e : (((flat (M.take a) ++ flat [(y0, y1)] ++ flat (M.drop a) ++ sp).set (a * 2) (.int .u32 x)).set (a * 2 + 1) (.int .i64 0)) = flat (insM M a (x, 0)) ++ sp := by
        unfold insM
        rw [flat_app]
        simp only [flat, List.append_assoc, List.cons_append, List.nil_append]
        rw [← tl, List.set_append_right _ _ (Nat.le_refl _), Nat.sub_self, List.set_append_right _ _ (by omega), Nat.add_sub_cancel_left]
        rfl
      rw [e] at A5
      have O35 : Only (OwnB p) h h5 := by
        have hbb := hp2 b (by simp [OwnB])
        refine (((((O1.mono (T := OwnB p) (by simp)).trans O2 (fun b hb _ => hb)).trans O3 ?_).trans O4 ?_).trans O5 ?_) <;>
        · intro b' hb' hlt
          simp at hb'
          subst hb'
          rcases hbb with h | h
          · exact h
          · omega
      refine hK _ c' h5 ⟨by rw [flat_len, insM_len ha], .inr ⟨b, sp, rfl, hlo2, hc, hsp, A5⟩⟩ O35 fun b' hb' => ?_
      rcases hp2 b' hb' with h | h
      · exact .inl h
      · exact .inr (by omega)
    have tk : flat (M.take a ++ [atL (M ++ [(0, 0)]) a]) = (flat M ++ [Value.int .u32 0, .int .i64 0]).take ((a + 1) * 2) := by
      have e : flat M ++ [Value.int .u32 0, .int .i64 0] = flat (M ++ [(0, 0)]) := by rw [flat_app]; rfl
      rw [e, ← flat_take]
      congr 1
      rw [List.take_succ_eq_append_getElem (by simp; omega), List.take_append_of_le_length ha]
      congr 2
      simp [atL, List.getD, show a < M.length + 1 by omega]
    have A2' : At h2 b (flat M ++ [Value.int .u32 0, .int .i64 0] ++ sp) := A2
    by_cases hca : c' = a + 1
    · rw [if_pos hca]
      have hae : a = M.length := by omega
      have : M.drop a = [] := by rw [hae]; simp
      rw [this]
      refine key h2 ?_ (Only.refl _ _)
      rw [tk, List.take_of_length_le (by simp [fl]; omega), this]
      simpa [flat] using A2'
    · rw [if_neg hca]
      show stL ((⟨b, 0, none⟩ : Addr).add ((a + 1) * 2)) 0 (flat (M.drop a)) h2 _
      rw [add_mk, Nat.zero_add]
      refine stL_own _ 0 _ h2 A2' (by simp [fl, new_len]; omega) flat_one fun h3 A3 O3 _ => key h3 ?_ O3
      rw [Nat.add_zero, new_len] at A3
      have e2 : (flat M ++ [Value.int .u32 0, .int .i64 0] ++ sp).take ((a + 1) * 2) = flat (M.take a ++ [atL (M ++ [(0, 0)]) a]) := by
        rw [List.take_append_of_le_length (by simp [fl]; omega), tk]
      have e3 : (flat M ++ [Value.int .u32 0, .int .i64 0] ++ sp).drop ((a + 1) * 2 + (M.length - a) * 2) = sp := by
        rw [List.drop_append_of_le_length (by simp [fl]; omega), List.drop_eq_nil_of_le (by simp [fl]; omega), List.nil_append]
      rw [e2, e3] at A3
      exact A3
end Go.Proofs.Ytipckkeaoncjiaa.Ev
