/- WHAT IS PROTECTED (package refs): all of it, the roots, seen from the heap. Conditions: the refs stand (Rf). -/
import Derived.Test.YtipckkeaoncjiaaRefD
namespace Go.Proofs.Ytipckkeaoncjiaa.Ev
open Go

def RowQ (h : Heap) (q : Option Addr) (m : Nat) (new : List Value) : Prop := match q with | some b => isRow h b new | none => m = 0
theorem Own.weak {h : Heap} {lo lo' N : Nat} {p : Option Addr} {l c : Nat} {cs : List Value} (H : Own h lo N p l c cs) (hl : lo' ≤ lo) : Own h lo' N p l c cs := by
  obtain ⟨e, H⟩ := H
  refine ⟨e, ?_⟩
  rcases H with h | ⟨b, sp, h1, h2, h3⟩
  · exact .inl h
  · exact .inr ⟨b, sp, h1, by omega, h3⟩
/-- many more at once -/
theorem own_appN {h : Heap} {lo by_ : Nat} {z : Array Value} {p q : Option Addr} {l c m : Nat} {cs new : List Value} {e : TypeId} {K : Option Addr → Nat → Nat → Heap → Prop}
    (H : Own h lo 1 p l c cs) (hnew : new.length = m) (hq : RowQ h q m new) (hz : z.size = 1) (hcap : (l + m) * by_ ≤ 140737488355328) (hv : ∀ v ∈ new, v.oneCell' = true) (hlo : lo ≤ h.size)
    (hK : ∀ p' c' h', Own h' lo 1 p' (l + m) c' (cs ++ new) → Only (OwnB p) h h' → (∀ b ∈ OwnB p', b ∈ OwnB p ∨ h.size ≤ b) → K p' (l + m) c' h') :
    appK h e 1 by_ z p l c q m K := by
  obtain ⟨hlen, H⟩ := H
  refine ⟨new, by omega, ?_, fun hle => ?_, fun hlt => ⟨cs, hlen, ?_, hcap, fun cap hc => ?_⟩⟩
  · cases q with
    | none => exact hq
    | some b => exact hq
  · rcases H with ⟨rfl, h0, h1⟩ | ⟨b, sp, rfl, h2, h3, h4, h5⟩
    · have hm : m = 0 := by omega
      have hn : new = [] := List.eq_nil_of_length_eq_zero (by omega)
      subst hm
      refine ⟨by omega, hK _ _ _ ⟨by simp [hlen, hn], .inl ⟨rfl, by omega, h1⟩⟩ (Only.refl _ _) fun b hb => .inl hb⟩
    · show stL ((⟨b, 0, none⟩ : Addr).add (l * 1)) 0 new h _
      rw [add_mk, Nat.zero_add]
      have hsp : m ≤ sp.length := by omega
      refine stL_own new 0 _ h h5 (by simp; omega) hv fun h' A' O' z' => hK _ _ h' ⟨by simp; omega, Or.inr ⟨b, sp.drop m, rfl, h2, hle, ?_, ?_⟩⟩ O' fun x hx => Or.inl hx
      · rw [List.length_drop, h4]
        omega
      · rw [Nat.add_zero, ← hlen, List.take_left, hnew, List.drop_append, List.drop_eq_nil_of_le (by omega : cs.length ≤ cs.length + m)] at A'
        simpa using A'
  · rcases H with ⟨e, h0, -⟩ | ⟨b, sp, rfl, -, -, -, h5⟩
    · subst e
      exact h0
    · exact isRow_at h5 fun j v hj => by
        rw [Nat.zero_add, List.getElem?_append_left (List.getElem?_eq_some_iff.1 hj).1]
        exact hj
  · refine hK _ _ _ ⟨by simp; omega, Or.inr ⟨h.size, (Builtin.zeroCells z (cap - (l + m))).toList, rfl, hlo, hc, by rw [size_zeroCells, hz], ?_⟩⟩ ((Only.push_cells h _ e).mono (by simp)) fun x hx => Or.inr ?_
    · have := At.push h (cs.toArray ++ new.toArray ++ Builtin.zeroCells z (cap - (l + m))) e
      simpa using this
    · simp [OwnB] at hx
      omega
theorem Own.row {h : Heap} {lo : Nat} {p : Option Addr} {l c : Nat} {cs : List Value} (H : Own h lo 1 p l c cs) : RowQ h p l cs := by
  obtain ⟨e, H⟩ := H
  rcases H with ⟨rfl, h0, -⟩ | ⟨b, sp, rfl, -, -, -, h5⟩
  · exact h0
  · exact isRow_at h5 fun j v hj => by
      rw [Nat.zero_add, List.getElem?_append_left (List.getElem?_eq_some_iff.1 hj).1]
      exact hj
theorem rowV_list (k : IntKind) (xs : List Int) : xs.map (Value.int k) = rowV xs.length fun i => .int k (xs.getD i 0) := by
  apply List.ext_getElem?
  intro i
  by_cases hi : i < xs.length
  · rw [rowV_get hi]
    simp [List.getD, hi]
  · rw [List.getElem?_eq_none (by simpa using Nat.le_of_not_lt hi), List.getElem?_eq_none (by rw [rowV_len]; omega)]
theorem map_getD (xs : List Int) : (List.range xs.length).map (fun i => xs.getD i 0) = xs := by
  apply List.ext_getElem?
  intro i
  by_cases hi : i < xs.length
  · simp [hi, List.getD]
  · rw [List.getElem?_eq_none (by simpa using Nat.le_of_not_lt hi), List.getElem?_eq_none (by omega)]
theorem rowV_rng (k : IntKind) (n : Nat) (g : Nat → Int) : rowV n (fun i => Value.int k (g i)) = ((List.range n).map g).map (Value.int k) := by
  unfold rowV
  rw [List.map_map]
  rfl
def catL (L : Nat → List Int) (i : Nat) : List Int := (List.range i).flatMap L
theorem catL_succ (L : Nat → List Int) (i : Nat) : catL L (i + 1) = catL L i ++ L i := by simp [catL, List.range_succ]
theorem mem_catL {L : Nat → List Int} {i : Nat} {x : Int} : x ∈ catL L i ↔ ∃ k, k < i ∧ x ∈ L k := by simp [catL]
theorem catL_len {L : Nat → List Int} {N : Nat} : ∀ (i : Nat), (∀ k, k < i → (L k).length ≤ N) → (catL L i).length ≤ i * N := by
  intro i
  induction i with
  | zero => intro _; simp [catL]
  | succ i ih =>
    intro h
    rw [catL_succ, List.length_append, Nat.add_mul]
    have := ih fun k hk => h k (by omega)
    have := h i (by omega)
    omega
/-- sorted, each once, and only what is wanted -/
theorem tidy {h : Heap} {lo : Nat} {p : Option Addr} {c : Nat} {xs : List Int} {K : Value → Heap → Prop} (H : Own h lo 1 p xs.length c (xs.map (Value.int .u32))) (hn : xs.length ≤ LB / 4)
    (hK : ∀ h' (p' : Option Addr) c' (R : List Int), R.Pairwise (· < ·) → (∀ x, x ∈ R ↔ 1 < x ∧ x ∈ xs) → Own h' lo 1 p' R.length c' (R.map (Value.int .u32)) → Only (OwnB p) h h' → OwnB p' = OwnB p → K (.slice p' R.length c') h') :
    CallsH Try.prog 50 [.slice p xs.length c] h fun v1 h2 => (v1 = (.tuple #[]) ∧ CallsH Try.prog 51 [(.slice p xs.length c)] h2 (fun v3 h4 => ldS (some v3) (fun p5 l6 c7 => CallsH Try.prog 52 [(.slice p5 l6 c7), (.func (.func 53) #[] #[])] h4 (fun v8 h9 => ldS (some v8) (fun p10 l11 c12 => K (.slice p10 l11 c12) h9))))) := by
  rcases H.2 with ⟨rfl, h0, h1⟩ | ⟨b, sp, rfl, h2, h3, h4, h5⟩
  · have hx : xs = [] := List.eq_nil_of_length_eq_zero h0
    subst hx
    refine sort50nil ⟨rfl, cmp51nil ?_⟩
    rw [ldS_some]
    refine del52nil ?_
    rw [ldS_some]
    exact hK h none c [] List.Pairwise.nil (fun x => by simp) ⟨rfl, .inl ⟨rfl, rfl, h1⟩⟩ (Only.refl _ _) rfl
  · have A : Arr .u32 h b xs.length (fun i => xs.getD i 0) sp := by
      unfold Arr
      rw [← rowV_list]
      exact h5
    refine sort50 A hn fun h1 g1 A1 R1 S1 O1 => ⟨rfl, ?_⟩
    refine cmp51 A1 h3 hn R1 fun h2' k g2 sp2 A2 hl2 hk2 up fw bw O2 => ?_
    rw [ldS_some]
    refine del52 A2 (by omega) (by omega) fun h3' k3 g3 sp3 A3 hl3 hk3 e3 O3 => ?_
    rw [ldS_some]
    have hR : ((List.range k3).map g3).length = k3 := by simp
    have := hK h3' (some ⟨b, 0, none⟩) c ((List.range k3).map g3) ?_ (fun x => ?_) ?_ ((O1.trans O2 (by simp [OwnB])).trans O3 (by simp [OwnB])) rfl
    · rw [hR] at this
      exact this
    · rw [e3]
      refine List.Pairwise.filter _ ?_
      rw [List.pairwise_map]
      exact (List.pairwise_lt_range (n := k)).imp_of_mem fun {p q} _ hq hpq => up p q hpq (List.mem_range.1 hq)
    · rw [e3, List.mem_filter]
      have P := S1.perm (n := xs.length) (Nat.le_refl _)
      rw [map_getD] at P
      have : x ∈ (List.range k).map g2 ↔ x ∈ xs := by
        rw [← P.mem_iff]
        simp only [List.mem_map, List.mem_range]
        constructor
        · rintro ⟨p, hp, rfl⟩
          obtain ⟨q, hq, e⟩ := fw p hp
          exact ⟨q, hq, e.symm⟩
        · rintro ⟨q, hq, rfl⟩
          obtain ⟨p, hp, e⟩ := bw q hq
          exact ⟨p, hp, e⟩
      rw [this]
      simp only [okR, decide_eq_true_eq]
      exact ⟨fun ⟨a, b⟩ => ⟨b, a⟩, fun ⟨a, b⟩ => ⟨b, a⟩⟩
    · rw [hR]
      refine ⟨by simp, .inr ⟨b, sp3, rfl, h2, by omega, by omega, ?_⟩⟩
      rw [← rowV_rng]
      exact A3
section
variable {lo : Nat} {h h' : Heap} {r M S W N : Nat} {f : Int → Int} {p : Nat → Option Addr} {c : Nat → Nat} {L : Nat → List Int} {K : Value → Heap → Prop}
theorem keys49 {h : Heap} {M : Nat} {K : Value → Heap → Prop} (hK : ∀ h1, At h1 h.size [.map (some M)] → Only [] h h1 → h1.size = h.size + 1 → K (.func (.func 66) #[] #[.pointer (some ⟨h.size, 0, none⟩)]) h1) :
    CallsH Try.prog 49 [.map (some M)] h K := by
  refine F49.spec _ h _ ?_
  unfold F49.w F49.J0
  refine newK_at fun h1 A1 O1 z1 => hK h1 A1 O1 z1
theorem coll48 {B : Nat} (H : Rf lo h r M S W N f p c L) (A : At h B [.map (some M)]) (hN : N ≤ LB / 64) {K : Value → Heap → Prop}
    (hK : ∀ (p : Option Addr) (c : Nat) (h' : Heap) (ks : List Int), ks.Nodup → (∀ x, x ∈ ks ↔ f x ≠ 0) → ks.length ≤ N → Own h' h.size 1 p ks.length c (ks.map (Value.int .u32)) → Only [] h h' → K (.slice p ks.length c) h') :
    CallsH Try.prog 48 [.func (.func 66) #[] #[.pointer (some ⟨B, 0, none⟩)]] h K := by
  have hLB : LB = 140737488355328 := rfl
  refine F48.spec _ h _ ?_
  unfold F48.w F48.J0
  obtain ⟨m, a, b, d⟩ := H.Mm
  have hmem : ∀ x, x ∈ m.map (·.1) ↔ f x ≠ 0 := fun x => by
    have h2 := b x
    by_cases h0 : f x = 0
    · rw [if_pos h0, lookup_none] at h2
      exact ⟨fun h => absurd h h2, fun h => absurd h0 h⟩
    · rw [if_neg h0] at h2
      refine ⟨fun _ => h0, fun _ => ?_⟩
      apply Classical.byContradiction
      intro hn
      rw [lookup_none.2 hn] at h2
      cases h2
  refine appSeq A a (fun x hx => ?_) (by omega) fun p c h2 ss hp Ow O2 => ?_
  · have := H.fx x ((hmem x).1 hx)
    simp only [Lit.wf, decide_eq_true_eq, Bool.and_eq_true]
    exact ⟨this.1, this.2⟩
  · rw [ldS_some]
    have nd : (m.map (·.1)).Nodup := by obtain ⟨_, _, _, _, h, _⟩ := a; exact h
    exact hK p c h2 ss (hp.nodup_iff.2 nd) (fun x => by rw [hp.mem_iff]; exact hmem x) (by rw [hp.length_eq]; simpa using d) (Ow.weak (by omega)) O2
theorem roots32 (H : Rf lo h r M S W N f p c L) (hN : N ≤ LB / 64) (hW : W ≤ 4)
    (hK : ∀ h' (p' : Option Addr) c' (R : List Int), R.Pairwise (· < ·) → (∀ x, x ∈ R ↔ 1 < x ∧ (f x ≠ 0 ∨ ∃ k, k < W ∧ x ∈ L k)) → Own h' h.size 1 p' R.length c' (R.map (Value.int .u32)) → Only [] h h' → K (.slice p' R.length c') h') :
    CallsH Try.prog 32 [.pointer (some ⟨r, 0, none⟩)] h K := by
  refine F32.spec _ h K ?_
  have hLB : LB = 140737488355328 := rfl
  unfold F32.w F32.J0
  rw [add_mk, H.rd0, ldM_some]
  refine keys49 fun hB AB OB zB => ?_
  rw [ldV_some]
  refine coll48 (H.new OB) AB hN fun pk ck h1 ks nd hks hkn Ow1 O1 => ?_
  replace Ow1 := Ow1.weak (lo' := h.size) (by omega)
  replace O1 := OB.trans O1 (by simp)
  rw [ldS_some, add_mk, show rd h1 ⟨r, 0 + 1, none⟩ = some (.slice (some ⟨S, 0, none⟩) W W) from (H.new O1).rd1, ldS_some]
  unfold F32.wk3 F32.Jk3
  have main : ∀ (d i : Nat) (q : Option Addr) (cq : Nat) (h2 : Heap), i + d = W → Own h2 h.size 1 q (ks ++ catL L i).length cq ((ks ++ catL L i).map (Value.int .u32)) → Only [] h h2 →
      F32.wL3 (d + 1) q (ks ++ catL L i).length cq (some ⟨S, 0, none⟩) W W W i h2 K := by
    intro d
    induction d with
    | zero =>
      intro i q cq h2 hd Ow O
      unfold F32.wL3 F32.JL3
      rw [show decide ((i : Int) < (W : Int)) = false by simp; omega, bcase_false]
      unfold F32.wk7 F32.Jk7
      have hi : i = W := by omega
      subst hi
      have hl := catL_len (L := L) (N := N) i H.len
      have : i * N ≤ 4 * N := Nat.mul_le_mul_right _ hW
      refine tidy Ow (by rw [List.length_append]; omega) fun h3 p3 c3 R hR hm Ow3 O3 _ => ?_
      refine hK h3 p3 c3 R hR (fun x => ?_) Ow3 (O.trans O3 fun b hb hlt => ?_)
      · rw [hm x, List.mem_append, hks, mem_catL]
      · have := Ow.lt b hb
        omega
    | succ d ih =>
      intro i q cq h2 hd Ow O
      unfold F32.wL3 F32.JL3
      rw [show decide ((i : Int) < (W : Int)) = true by simp; omega, bcase_true, ptrK_some]
      refine ⟨by omega, by omega, ?_⟩
      have H2 := H.new O
      rw [add_mk, show 0 + Int.toNat (i : Int) * 1 = i by omega, H2.rdT (by omega), ldS_some, show IntKind.wrap .i64 ((i : Int) + 1) = ((i + 1 : Nat) : Int) by rw [wrapN (by omega) (by omega)]; omega]
      have Owi := H2.own i (by omega)
      have hl := catL_len (L := L) (N := N) i fun k hk => H.len k (by omega)
      have : i * N ≤ 4 * N := Nat.mul_le_mul_right _ (by omega)
      have hli := H.len i (by omega)
      have hs := O.size
      refine own_appN (new := (L i).map (Value.int .u32)) Ow (by simp) Owi.row rfl (by rw [List.length_append]; omega) (by simp [Value.oneCell']) hs fun p' c' h3 Ow3 O3 hp3 => ?_
      have e : (ks ++ catL L i).length + (L i).length = (ks ++ catL L (i + 1)).length := by rw [catL_succ]; simp; omega
      have e2 : (ks ++ catL L i).map (Value.int .u32) ++ (L i).map (Value.int .u32) = (ks ++ catL L (i + 1)).map (Value.int .u32) := by rw [catL_succ]; simp
      rw [e, e2] at Ow3
      rw [e]
      exact ih (i + 1) p' c' h3 (by omega) Ow3 (O.trans O3 fun b hb hlt => by have := Ow.lt b hb; omega)
  have e0 : ks = ks ++ catL L 0 := by simp [catL]
  refine ⟨W + 1, ?_⟩
  have := main W 0 pk ck h1 (by omega) (by rw [← e0]; exact Ow1) O1
  rw [← e0] at this
  exact this
def cntV (f : Int → Int) (x : Int) : List Value := [.int .u32 x, .int .i64 (f x)]
theorem all35 (H : Rf lo h r M S W N f p c L) (hN : N ≤ LB / 64)
    (hK : ∀ h' (p' : Option Addr) c' (ks : List Int), ks.Pairwise (· < ·) → (∀ x, x ∈ ks ↔ f x ≠ 0) → Own h' h.size 2 p' ks.length c' (ks.flatMap (cntV f)) → Only [] h h' → K (.slice p' ks.length c') h') :
    CallsH Try.prog 35 [.pointer (some ⟨r, 0, none⟩)] h K := by
  refine F35.spec _ h K ?_
  have hLB : LB = 140737488355328 := rfl
  unfold F35.w F35.J0
  rw [add_mk, H.rd0, ldM_some]
  have main : ∀ (ks : List Int) (pk : Option Addr) (ck : Nat), ks.Pairwise (· < ·) → (∀ x, x ∈ ks ↔ f x ≠ 0) → ks.length ≤ N → ∀ (hs : Heap), Own hs h.size 1 pk ks.length ck (ks.map (Value.int .u32)) →
      ∀ (d i : Nat) (q : Option Addr) (cq : Nat) (h2 : Heap), i + d = ks.length → Own h2 hs.size 2 q i cq ((ks.take i).flatMap (cntV f)) → Only [] h hs → Only [] hs h2 →
      F35.wL3 (d + 1) ⟨r, 0, none⟩ q i cq pk ks.length ck ks.length i h2 K := by
    intro ks pk ck hks hmem hkn hs Owk d
    induction d with
    | zero =>
      intro i q cq h2 hd Ow O O2
      unfold F35.wL3 F35.JL3
      rw [show decide ((i : Int) < (ks.length : Int)) = false by simp; omega, bcase_false]
      have hi : i = ks.length := by omega
      subst hi
      rw [List.take_length] at Ow
      refine hK h2 q cq ks hks hmem ?_ (O.trans O2 (by simp))
      have := O.size
      obtain ⟨e, Ow⟩ := Ow
      refine ⟨e, ?_⟩
      rcases Ow with h | ⟨b, sp, h1, h2, h3⟩
      · exact .inl h
      · exact .inr ⟨b, sp, h1, by omega, h3⟩
    | succ d ih =>
      intro i q cq h2 hd Ow O O2
      unfold F35.wL3 F35.JL3
      rw [show decide ((i : Int) < (ks.length : Int)) = true by simp; omega, bcase_true]
      have hi : i < ks.length := by omega
      have Owk2 := Owk.only O2 (by simp)
      obtain ⟨b, hpb, hrd⟩ := Owk2.rd (j := i) (by simpa using hi)
      rw [hpb, ptrK_some]
      refine ⟨by omega, by omega, ?_⟩
      rw [add_mk, show 0 + Int.toNat (i : Int) * 1 = i by omega, hrd]
      rw [show (ks.map (Value.int .u32))[i]? = some (.int .u32 ks[i]) by simp [hi], ldI_some]
      have H2 := H.new (O.trans O2 (by simp))
      rw [add_mk, H2.rd0, ldM_some]
      refine look_rf H2 ?_
      refine newK_at fun h3 A3 O3 z3 => ?_
      rw [show IntKind.wrap .i64 ((i : Int) + 1) = ((i + 1 : Nat) : Int) by rw [wrapN (by omega) (by omega)]; omega]
      have s2 := O2.size
      refine own_app (Ow.only O3 (by simp)) A3 rfl rfl (by omega) (by intro v hv; simp at hv; rcases hv with rfl | rfl <;> rfl) (by omega) fun p' c' h4 Ow4 O4 hp4 => ?_
      have e : (ks.take i).flatMap (cntV f) ++ [.int .u32 ks[i], .int .i64 (f ks[i])] = (ks.take (i + 1)).flatMap (cntV f) := by
        rw [List.take_succ_eq_append_getElem hi, List.flatMap_append, List.flatMap_singleton]
        rfl
      have e' : (ks.take i).flatMap (cntV f) ++ (#[Value.int .u32 ks[i], .int .i64 (f ks[i])]).toList = (ks.take (i + 1)).flatMap (cntV f) := e
      rw [e'] at Ow4
      rw [← hpb]
      exact ih (i + 1) p' c' h4 (by omega) Ow4 O ((O2.trans O3 (by simp)).trans O4 fun b hb hlt => by have := Ow.lt b hb; omega)
  have start : ∀ (pk : Option Addr) (ck : Nat) (ks : List Int) (hs : Heap), ks.Pairwise (· < ·) → (∀ x, x ∈ ks ↔ f x ≠ 0) → ks.length ≤ N → Own hs h.size 1 pk ks.length ck (ks.map (Value.int .u32)) → Only [] h hs →
      F35.wk3 ⟨r, 0, none⟩ none 0 0 pk ks.length ck ks.length (0 : Int) hs K := fun pk ck ks hs h1 h2 h3 h4 h5 => by
    unfold F35.wk3 F35.Jk3
    exact ⟨_, main ks pk ck h1 h2 h3 hs h4 ks.length 0 none 0 hs (by omega) (Own.nil _ _ _) h5 (Only.refl _ _)⟩
  refine keys49 fun hB AB OB zB => ?_
  rw [ldV_some]
  refine F54.spec _ hB _ ?_
  unfold F54.w F54.J0
  refine coll48 (H.new OB) AB hN fun pk ck h1 ks nd hks hkn Ow1 O1 => ?_
  replace Ow1 := Ow1.weak (lo' := h.size) (by omega)
  replace O1 := OB.trans O1 (by simp)
  rw [ldS_some]
  rcases Ow1.2 with ⟨rfl, h0, h1'⟩ | ⟨b, sp, rfl, h2, h3, h4, h5⟩
  · have hx : ks = [] := List.eq_nil_of_length_eq_zero h0
    subst hx
    refine sort50nil ⟨rfl, ?_⟩
    dsimp only
    rw [ldS_some]
    exact start none ck [] h1 List.Pairwise.nil hks hkn Ow1 O1
  · have A : Arr .u32 h1 b ks.length (fun i => ks.getD i 0) sp := by
      unfold Arr
      rw [← rowV_list]
      exact h5
    refine sort50 A (by omega) fun h2' g1 A1 R1 S1 O2 => ⟨rfl, ?_⟩
    dsimp only
    rw [ldS_some]
    have P := S1.perm (n := ks.length) (Nat.le_refl _)
    rw [map_getD] at P
    have hR : ((List.range ks.length).map g1).length = ks.length := by simp
    have nd1 : ((List.range ks.length).map g1).Nodup := P.nodup_iff.2 nd
    have := start (some ⟨b, 0, none⟩) ck ((List.range ks.length).map g1) h2' ?_ (fun x => by rw [P.mem_iff]; exact hks x) (by rw [hR]; exact hkn) ?_ (O1.trans O2 (by intro b' hb' hlt; simp at hb'; omega))
    · rw [hR] at this
      exact this
    · rw [List.pairwise_map]
      refine (List.pairwise_lt_range (n := ks.length)).imp_of_mem fun {p q} hp hq hpq => ?_
      have h1 := R1 p q (Nat.zero_le _) hpq (List.mem_range.1 hq)
      have h2 : g1 p ≠ g1 q := fun e => by
        have nd2 := List.pairwise_map.1 nd1
        have := (List.pairwise_iff_getElem.1 nd2) p q (by simpa using List.mem_range.1 hp) (by simpa using List.mem_range.1 hq) hpq
        simp at this
        exact this e
      omega
    · rw [hR]
      refine ⟨by simp, .inr ⟨b, sp, rfl, h2, h3, h4, ?_⟩⟩
      rw [← rowV_rng]
      exact A1
end
end Go.Proofs.Ytipckkeaoncjiaa.Ev
