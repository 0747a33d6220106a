/- THE QUEUE by keys (package ranks), whole, seen from the heap. Conditions: the queue stands (Qu). -/
import Derived.Test.YtkdegjjenbbjfaaRnkD
import Derived.Test.YtkdegjjenbbjfaaRnkG
namespace Go.Proofs.Ytkdegjjenbbjfaa.Ev
open Go

structure Qu (h : Heap) (lo q pi mb : Nat) (p : Option Addr) (c : Nat) (L : List It) : Prop where
  at_ : At h q [.pointer (some ⟨pi, 0, none⟩)]
  pile : Pile h lo pi mb p c L
  heap : HeapN L L.length
  sep : lo ≤ q ∧ q ≠ pi ∧ q ≠ mb ∧ q ∉ OwnB p
theorem Qu.only {S : List Nat} {h h' : Heap} {lo q pi mb : Nat} {p : Option Addr} {c : Nat} {L : List It} (H : Qu h lo q pi mb p c L) (O : Only S h h') (hS : ∀ b ∈ q :: pi :: mb :: OwnB p, b ∉ S) : Qu h' lo q pi mb p c L :=
  ⟨H.at_.only O (hS _ (by simp)), H.pile.only O (hS _ (by simp)) (hS _ (by simp)) (fun b hb => hS b (by simp [hb])), H.heap, H.sep⟩
theorem Qu.lt {h : Heap} {lo q pi mb : Nat} {p : Option Addr} {c : Nat} {L : List It} (H : Qu h lo q pi mb p c L) : ∀ b ∈ q :: pi :: mb :: OwnB p, lo ≤ b ∧ b < h.size := by
  intro b hb
  obtain ⟨s1, s2, s3, s4⟩ := H.sep
  obtain ⟨u1, u2, -⟩ := H.pile.sep
  obtain ⟨v1, v2, v3⟩ := H.pile.lt
  simp only [List.mem_cons] at hb
  rcases hb with rfl | rfl | rfl | hb
  · exact ⟨s1, H.at_.lt⟩
  · exact ⟨u1, v1⟩
  · exact ⟨u2, v2⟩
  · exact v3 b hb
def hasId (L : List It) (id : Int) : Prop := ∃ k, k < L.length ∧ (atL L k).1 = id
theorem assert57 (v : Value) (K : Value → Prop) : assertE Try.prog 57 false (.iface 57 v) K = K v := by kernel_rfl
theorem store57 (b : Nat) (n m : Int) (h : Heap) (K : Heap → Prop) : storeE Try.prog 57 (some (Addr.mk b 0 none)) (.agg #[.int .i64 n, .int .i64 m]) h K = stK h (Addr.add (Addr.mk b 0 none) 0) (.int .i64 n) (fun h1 => stK h1 (Addr.add (Addr.mk b 0 none) 1) (.int .i64 m) K) := by kernel_rfl

section
variable {h : Heap} {lo q pi mb : Nat} {p : Option Addr} {c : Nat} {L : List It} {K : Value → Heap → Prop} {i j : Nat}

theorem qnew30 (hK : ∀ q pi mb h', Qu h' h.size q pi mb none 0 [] → Only [] h h' → K (.pointer (some ⟨q, 0, none⟩)) h') : CallsH Try.prog 30 [] h K := by
  apply F30.spec
  unfold F30.w F30.J0
  have O1 := Only.push_map h #[] 0
  have m1 : mp (h.push (.map #[] 0)) h.size = some (#[], 0) := by simp [mp]
  have z1 : (h.push (.map #[] 0)).size = h.size + 1 := by simp
  show (fun b1 h2 => newK h2 (.cells #[(.slice none 0 0), (.map (some b1))] 97) (fun b3 h4 => newK h4 (.cells #[(.pointer (some (Addr.mk b3 0 none)))] 99) (fun b5 h6 => K (.pointer (some (Addr.mk b5 0 none))) h6))) h.size (h.push (.map #[] 0))
  generalize h.push (.map #[] 0) = h1 at *
  refine newK_at fun h2 A2 O2 z2 => newK_at fun h3 A3 O3 z3 => ?_
  have M1 : MapM h1 h.size .i64 [] := MapM.empty m1
  have M3 := (M1.only O2 (by simp)).only O3 (by simp)
  refine hK h2.size h1.size h.size h3 ⟨A3, ⟨A2.only O3 (by simp), Own.nil _ _ _, ⟨fun _ => none, ⟨[], M3, fun x => rfl⟩, fun id i => by simp⟩, by omega, by omega, by simp [OwnB], by simp [OwnB], by omega⟩, fun k h0 h1 => by simp at h1, by omega, by omega, by omega, by simp [OwnB]⟩ ((O1.trans O2 (by simp)).trans O3 (by simp))
theorem look_id {id : Int} {K : Option (Nat × Value) → Prop} (Q : Pile h lo pi mb p c L) (hN : ¬ hasId L id → K none) (hS : ∀ i k, k < L.length → (atL L k).1 = id → K (some (i, .int .i64 (k : Int)))) : lookK h (some mb) .i64 .i64 id K := by
  obtain ⟨f, hf, hok⟩ := Q.map
  refine look_mapF hf (fun e => hN ?_) fun i k e => ?_
  · rintro ⟨k, hk, hid⟩
    rw [(hok id k).2 ⟨hk, hid⟩] at e
    cases e
  · obtain ⟨a, b⟩ := (hok id k).1 e
    exact hS i k a b
theorem qpush31 {x : It} (Q : Qu h lo q pi mb p c L) (hl : L.length < 90000) (hlo : lo ≤ h.size) (hT : hasId L x.1 → K (.bool false) h)
    (hF : ¬ hasId L x.1 → ∀ h' p' c' L', Qu h' lo q pi mb p' c' L' → L'.Perm (L ++ [x]) → Only (pi :: mb :: OwnB p) h h' → (∀ b ∈ OwnB p', b ∈ OwnB p ∨ h.size ≤ b) → K (.bool true) h') :
    CallsH Try.prog 31 [.pointer (some ⟨q, 0, none⟩), .int .i64 x.1, .int .i64 x.2] h K := by
  apply F31.spec
  unfold F31.w F31.J0
  simp only [add_mk, Nat.zero_add]
  obtain ⟨s1, s2, s3, s4⟩ := Q.sep
  refine ldP_of (by rw [Q.at_.rd]; rfl) ?_
  simp only [ptrK_some, add_mk, Nat.zero_add]
  refine ldM_some' (by rw [Q.pile.at_.rd]; rfl) (look_id Q.pile (fun hn => ldI_of rfl ?_) fun i k hk hid => ldI_of rfl ?_)
  · rw [Option.isSome_none, bcase_false]
    refine ldP_of (by rw [Q.at_.rd]; rfl) (push49 Q.pile Q.heap (fun k hk e => hn ⟨k, hk, e⟩) hl hlo fun h1 p1 c1 L1 P1 p1' H1 O1 hp1 => ⟨rfl, ?_⟩)
    have hq := Q.at_.lt
    refine hF hn h1 p1 c1 L1 ⟨Q.at_.only O1 (by simp [s2, s3, s4]), P1, H1, s1, s2, s3, fun hb => ?_⟩ p1' O1 hp1
    rcases hp1 q hb with h3 | h3
    · exact s4 h3
    · omega
  · rw [Option.isSome_some, bcase_true]
    exact hT ⟨k, hk, hid⟩
theorem qlen33 (Q : Qu h lo q pi mb p c L) (hK : K (.int .i64 (L.length : Int)) h) : CallsH Try.prog 33 [.pointer (some ⟨q, 0, none⟩)] h K := by
  apply F33.spec
  unfold F33.w F33.J0
  simp only [add_mk, Nat.zero_add]
  exact ldP_of (by rw [Q.at_.rd]; rfl) (len52 Q.pile (ldI_of rfl hK))
theorem qkey38 {id : Int} (Q : Qu h lo q pi mb p c L) (hN : ¬ hasId L id → K (.tuple #[.int .i64 0, .bool false]) h) (hS : ∀ k, k < L.length → (atL L k).1 = id → K (.tuple #[.int .i64 (atL L k).2, .bool true]) h) : CallsH Try.prog 38 [.pointer (some ⟨q, 0, none⟩), .int .i64 id] h K := by
  apply F38.spec
  unfold F38.w F38.J0
  simp only [add_mk, Nat.zero_add]
  refine ldP_of (by rw [Q.at_.rd]; rfl) ?_
  simp only [ptrK_some, add_mk, Nat.zero_add]
  refine ldM_some' (by rw [Q.pile.at_.rd]; rfl) (look_id Q.pile (fun hn => ldI_of rfl ?_) fun i k hk hid => ldI_of (n := (k : Int)) rfl ?_)
  · rw [Option.isSome_none, Bool.not_false, bcase_true]
    exact hN hn
  · rw [Option.isSome_some, Bool.not_true, bcase_false]
    refine ldP_of (by rw [Q.at_.rd]; rfl) ?_
    simp only [ptrK_some, add_mk, Nat.zero_add]
    obtain ⟨b, ep, er⟩ := Q.pile.own.rd (j := k * 2 + 1) (by rw [flat_len]; omega)
    refine ldS_of (by rw [Q.pile.at_.rd]; rfl) ?_
    subst ep
    simp only [ptrK_some, add_mk, Nat.zero_add, Int.toNat_natCast]
    exact ⟨by omega, by omega, ldI_of (n := (atL L k).2) (by rw [er, flat_get1 hk]) (hS k hk hid)⟩
theorem qchange34 {id v : Int} (Q : Qu h lo q pi mb p c L) (hl : L.length < 90000) (hN : ¬ hasId L id → K (.bool false) h)
    (hS : ∀ k h' L', k < L.length → (atL L k).1 = id → Qu h' lo q pi mb p c L' → L'.Perm (L.set k (id, v)) → Only (pi :: mb :: OwnB p) h h' → K (.bool true) h') :
    CallsH Try.prog 34 [.pointer (some ⟨q, 0, none⟩), .int .i64 id, .int .i64 v] h K := by
  apply F34.spec
  unfold F34.w F34.J0
  simp only [add_mk, Nat.zero_add]
  obtain ⟨s1, s2, s3, s4⟩ := Q.sep
  obtain ⟨u1, u2, u3, u4, u5⟩ := Q.pile.sep
  refine ldP_of (by rw [Q.at_.rd]; rfl) ?_
  simp only [ptrK_some, add_mk, Nat.zero_add]
  refine ldM_some' (by rw [Q.pile.at_.rd]; rfl) (look_id Q.pile (fun hn => ldI_of rfl ?_) fun i k hk hid => ldI_of (n := (k : Int)) rfl ?_)
  · rw [Option.isSome_none, Bool.not_false, bcase_true]
    exact hN hn
  · rw [Option.isSome_some, Bool.not_true, bcase_false]
    refine ldP_of (by rw [Q.at_.rd]; rfl) ?_
    simp only [ptrK_some, add_mk, Nat.zero_add]
    obtain ⟨b, ep, er⟩ := Q.pile.own.rd (j := k * 2 + 1) (by rw [flat_len]; omega)
    refine ldS_of (by rw [Q.pile.at_.rd]; rfl) ?_
    subst ep
    simp only [ptrK_some, add_mk, Nat.zero_add, Nat.add_zero, Int.toNat_natCast]
    refine ⟨by omega, by omega, Q.pile.own.set (by rw [flat_len]; omega) rfl fun h1 H1 O1 => ?_⟩
    rw [flat_set1, hid] at H1
    simp only [OwnB, List.mem_singleton] at s4 u3 u4
    have Q1 := Q.at_.only O1 (by simpa using s4)
    obtain ⟨f, hf, hok⟩ := Q.pile.map
    have hk' := hok.key hk v
    rw [hid] at hk'
    have P1 : Pile h1 lo pi mb (some ⟨b, 0, none⟩) c (L.set k (id, v)) := ⟨by rw [List.length_set]; exact Q.pile.at_.only O1 (by simpa using u3), by rw [List.length_set]; exact H1, ⟨f, hf.only O1 (by simpa using u4), hk'⟩, Q.pile.sep⟩
    refine ldP_of (by rw [Q1.rd]; rfl) ?_
    refine fix53 P1 (by rw [List.length_set]; omega) (by rw [List.length_set]; exact hk) (down_begin (L := L) (by rw [List.length_set]; exact Q.heap) (fun j hj hjk => ?_) (by rw [List.length_set]; exact hk)) fun h2 L2 P2 p2 H2 O2 => ⟨rfl, ?_⟩
    · simp [atL, List.getD, Ne.symm hjk]
    · refine hS k h2 L2 hk hid ⟨Q1.only O2 (by simp [OwnB, s3, s4]), P2, H2, s1, s2, s3, by simpa [OwnB] using s4⟩ p2 ?_
      exact (O1.mono (T := pi :: mb :: OwnB (some ⟨b, 0, none⟩)) (by simp [OwnB])).trans O2 (by simp +contextual)
theorem qdrop35 {id : Int} (Q : Qu h lo q pi mb p c L) (hl : L.length < 90000) (hN : ¬ hasId L id → K (.bool false) h)
    (hS : ∀ k h' M, k < L.length → (atL L k).1 = id → Qu h' lo q pi mb p c M → (M ++ [atL L k]).Perm L → Only (pi :: mb :: OwnB p) h h' → K (.bool true) h') :
    CallsH Try.prog 35 [.pointer (some ⟨q, 0, none⟩), .int .i64 id] h K := by
  apply F35.spec
  unfold F35.w F35.J0
  simp only [add_mk, Nat.zero_add]
  obtain ⟨s1, s2, s3, s4⟩ := Q.sep
  refine ldP_of (by rw [Q.at_.rd]; rfl) ?_
  simp only [ptrK_some, add_mk, Nat.zero_add]
  refine ldM_some' (by rw [Q.pile.at_.rd]; rfl) (look_id Q.pile (fun hn => ldI_of rfl ?_) fun i k hk hid => ldI_of (n := (k : Int)) rfl ?_)
  · rw [Option.isSome_none, bcase_false]
    exact hN hn
  · rw [Option.isSome_some, bcase_true]
    refine ldP_of (by rw [Q.at_.rd]; rfl) (remove54 Q.pile Q.heap (by omega) hk fun h1 M P1 p1 H1 O1 => ?_)
    rw [ldV_some]
    exact hS k h1 M hk hid ⟨Q.at_.only O1 (by simp [s2, s3, s4]), P1, H1, s1, s2, s3, s4⟩ p1 O1
theorem qtaken51 (Q : Qu h lo q pi mb p c L) (hl : L.length < 90000) (hne : 0 < L.length)
    (hK : ∀ h' M, Qu h' lo q pi mb p c M → (M ++ [atL L 0]).Perm L → Only (pi :: mb :: OwnB p) h h' → K (.agg #[.int .i64 (atL L 0).1, .int .i64 (atL L 0).2]) h') : CallsH Try.prog 51 [.pointer (some ⟨q, 0, none⟩)] h K := by
  apply F51.spec
  unfold F51.w F51.J0
  simp only [add_mk, Nat.zero_add]
  have lt := Q.lt
  obtain ⟨s1, s2, s3, s4⟩ := Q.sep
  refine newK_at fun h1 A1 O1 z1 => ?_
  have Q1 := Q.only O1 (by simp)
  refine ldP_of (by rw [Q1.at_.rd]; rfl) (pop63 Q1.pile Q1.heap (by omega) hne fun h2 M P2 p2 H2 O2 => ?_)
  rw [ldV_some, assert57, store57]
  have hnS : h.size ∉ pi :: mb :: OwnB p := fun hb => by
    have := (lt h.size (List.mem_cons_of_mem _ hb)).2
    omega
  simp only [add_mk, Nat.zero_add, Nat.add_zero]
  refine stK_at (A1.only O2 hnS) (by simp) rfl fun h3 A3 O3 z3 => stK_at A3 (by simp) rfl fun h4 A4 O4 z4 => ?_
  refine ldI_of (n := (atL L 0).1) (by rw [A4.rd]; rfl) (ldI_of (n := (atL L 0).2) (by rw [A4.rd]; rfl) ?_)
  have O34 := O3.trans O4 (by simp)
  have Q2 : Qu h2 lo q pi mb p c M := ⟨Q1.at_.only O2 (by simp [s2, s3, s4]), P2, H2, s1, s2, s3, s4⟩
  refine hK h4 M (Q2.only O34 fun b hb => ?_) p2 ?_
  · have := (lt b hb).2
    simp
    omega
  · exact ((O1.mono (T := pi :: mb :: OwnB p) (by simp)).trans O2 fun b hb _ => hb).trans O34 (by simp)
theorem qseen55 (Q : Qu h lo q pi mb p c L) (hne : 0 < L.length) (hK : ∀ h', Qu h' lo q pi mb p c L → Only [] h h' → K (.agg #[.int .i64 (atL L 0).1, .int .i64 (atL L 0).2]) h') : CallsH Try.prog 55 [.pointer (some ⟨q, 0, none⟩)] h K := by
  apply F55.spec
  unfold F55.w F55.J0
  simp only [add_mk, Nat.zero_add]
  have lt := Q.lt
  refine newK_at fun h1 A1 O1 z1 => ?_
  have Q1 := Q.only O1 (by simp)
  refine ldP_of (by rw [Q1.at_.rd]; rfl) ?_
  simp only [ptrK_some, add_mk, Nat.zero_add]
  obtain ⟨b, ep, er⟩ := Q1.pile.own.rd (j := 0) (by rw [flat_len]; omega)
  obtain ⟨b', ep', er'⟩ := Q1.pile.own.rd (j := 1) (by rw [flat_len]; omega)
  refine ldS_of (by rw [Q1.pile.at_.rd]; rfl) ?_
  subst ep
  injection ep' with ep'
  injection ep' with ep'
  subst ep'
  simp only [ptrK_some, add_mk, Nat.zero_add, Nat.add_zero]
  refine ⟨by omega, by omega, ldI_of (n := (atL L 0).1) (er.trans (flat_get0 hne)) (ldI_of (n := (atL L 0).2) (er'.trans (flat_get1 hne)) ?_)⟩
  refine stK_at A1 (by simp) rfl fun h3 A3 O3 z3 => stK_at A3 (by simp) rfl fun h4 A4 O4 z4 => ?_
  refine ldI_of (n := (atL L 0).1) (by rw [A4.rd]; rfl) (ldI_of (n := (atL L 0).2) (by rw [A4.rd]; rfl) ?_)
  have O34 := O3.trans O4 (by simp)
  refine hK h4 (Q1.only O34 fun b hb => ?_) (O1.nil O34 (by simp))
  have := (lt b hb).2
  simp
  omega
theorem qpop32 (Q : Qu h lo q pi mb p c L) (hl : L.length < 90000) (hN : L = [] → ∀ h', Qu h' lo q pi mb p c [] → Only [] h h' → K (.tuple #[.agg #[.int .i64 0, .int .i64 0], .bool false]) h')
    (hK : ∀ h' M, 0 < L.length → Qu h' lo q pi mb p c M → (M ++ [atL L 0]).Perm L → Only (pi :: mb :: OwnB p) h h' → K (.tuple #[.agg #[.int .i64 (atL L 0).1, .int .i64 (atL L 0).2], .bool true]) h') : CallsH Try.prog 32 [.pointer (some ⟨q, 0, none⟩)] h K := by
  apply F32.spec
  unfold F32.w F32.J0
  have lt := Q.lt
  refine newK_at fun h1 A1 O1 z1 => ?_
  have Q1 := Q.only O1 (by simp)
  apply A51.F50.spec
  unfold A51.F50.w A51.F50.J0
  refine newK_at fun h2 A2 O2 z2 => ?_
  have Q2 := Q1.only O2 (by simp)
  simp only [add_mk, Nat.zero_add]
  refine qlen33 Q2 (ldI_of rfl ?_)
  have frame : ∀ {h3 h4 : Heap} {M : List It} {x : Nat}, Qu h3 lo q pi mb p c M → Only [x] h3 h4 → h.size ≤ x → Qu h4 lo q pi mb p c M := fun Q3 O hx => Q3.only O fun b hb => by
    have := (lt b hb).2
    simp
    omega
  have B2 := A1.only O2 (by simp)
  by_cases hL : L = []
  · subst hL
    rw [show (((([] : List It).length : Int)) == (0 : Int)) = true from rfl, bcase_true]
    refine stK_at A2 (by simp) rfl fun h3 A3 O3 z3 => stK_at A3 (by simp) rfl fun h4 A4 O4 z4 => ?_
    refine ldI_of (n := 0) (by rw [A4.rd]; rfl) (ldI_of (n := 0) (by rw [A4.rd]; rfl) ⟨_, _, _, rfl, ?_⟩)
    have O34 := O3.trans O4 (by simp)
    refine stK_at (B2.only O34 (by simp; omega)) (by simp) rfl fun h5 A5 O5 z5 => stK_at A5 (by simp) rfl fun h6 A6 O6 z6 => ?_
    refine ldI_of (n := 0) (by rw [A6.rd]; rfl) (ldI_of (n := 0) (by rw [A6.rd]; rfl) ?_)
    have O56 := O5.trans O6 (by simp)
    exact hN rfl h6 (frame (frame Q2 O34 (by omega)) O56 (by omega)) (((O1.trans O2 (by simp)).nil O34 (by simp; omega)).nil O56 (by simp))
  · have hpos : 0 < L.length := List.length_pos_iff.2 hL
    rw [show ((L.length : Int) == (0 : Int)) = false by simp; omega, bcase_false]
    refine qtaken51 Q2 hl hpos fun h3 M Q3 p3 O3 => ⟨_, _, rfl, ?_⟩
    have hnS : ∀ x, h.size ≤ x → x ∉ pi :: mb :: OwnB p := fun x hx hb => by
      have := (lt x (List.mem_cons_of_mem _ hb)).2
      omega
    refine stK_at (A2.only O3 (hnS _ (by omega))) (by simp) rfl fun h4 A4 O4 z4 => stK_at A4 (by simp) rfl fun h5 A5 O5 z5 => ?_
    refine ldI_of (n := (atL L 0).1) (by rw [A5.rd]; rfl) (ldI_of (n := (atL L 0).2) (by rw [A5.rd]; rfl) ⟨_, _, _, rfl, ?_⟩)
    have O45 := O4.trans O5 (by simp)
    refine stK_at ((B2.only O3 (hnS _ (by omega))).only O45 (by simp; omega)) (by simp) rfl fun h6 A6 O6 z6 => stK_at A6 (by simp) rfl fun h7 A7 O7 z7 => ?_
    refine ldI_of (n := (atL L 0).1) (by rw [A7.rd]; rfl) (ldI_of (n := (atL L 0).2) (by rw [A7.rd]; rfl) ?_)
    have O67 := O6.trans O7 (by simp)
    refine hK h7 M hpos (frame (frame Q3 O45 (by omega)) O67 (by omega)) p3 ?_
    have g1 : Only (pi :: mb :: OwnB p) h h3 := ((O1.trans O2 (by simp)).mono (T := pi :: mb :: OwnB p) (by simp)).trans O3 fun b hb _ => hb
    exact (g1.trans O45 (by simp; omega)).trans O67 (by simp)
theorem qtop37 (Q : Qu h lo q pi mb p c L) (hN : L = [] → ∀ h', Qu h' lo q pi mb p c [] → Only [] h h' → K (.tuple #[.agg #[.int .i64 0, .int .i64 0], .bool false]) h')
    (hK : ∀ h', 0 < L.length → Qu h' lo q pi mb p c L → Only [] h h' → K (.tuple #[.agg #[.int .i64 (atL L 0).1, .int .i64 (atL L 0).2], .bool true]) h') : CallsH Try.prog 37 [.pointer (some ⟨q, 0, none⟩)] h K := by
  apply F37.spec
  unfold F37.w F37.J0
  have lt := Q.lt
  refine newK_at fun h1 A1 O1 z1 => ?_
  have Q1 := Q.only O1 (by simp)
  apply A55.F50.spec
  unfold A55.F50.w A55.F50.J0
  refine newK_at fun h2 A2 O2 z2 => ?_
  have Q2 := Q1.only O2 (by simp)
  simp only [add_mk, Nat.zero_add]
  refine qlen33 Q2 (ldI_of rfl ?_)
  have frame : ∀ {h3 h4 : Heap} {M : List It} {x : Nat}, Qu h3 lo q pi mb p c M → Only [x] h3 h4 → h.size ≤ x → Qu h4 lo q pi mb p c M := fun Q3 O hx => Q3.only O fun b hb => by
    have := (lt b hb).2
    simp
    omega
  have B2 := A1.only O2 (by simp)
  by_cases hL : L = []
  · subst hL
    rw [show (((([] : List It).length : Int)) == (0 : Int)) = true from rfl, bcase_true]
    refine stK_at A2 (by simp) rfl fun h3 A3 O3 z3 => stK_at A3 (by simp) rfl fun h4 A4 O4 z4 => ?_
    refine ldI_of (n := 0) (by rw [A4.rd]; rfl) (ldI_of (n := 0) (by rw [A4.rd]; rfl) ⟨_, _, _, rfl, ?_⟩)
    have O34 := O3.trans O4 (by simp)
    refine stK_at (B2.only O34 (by simp; omega)) (by simp) rfl fun h5 A5 O5 z5 => stK_at A5 (by simp) rfl fun h6 A6 O6 z6 => ?_
    refine ldI_of (n := 0) (by rw [A6.rd]; rfl) (ldI_of (n := 0) (by rw [A6.rd]; rfl) ?_)
    have O56 := O5.trans O6 (by simp)
    exact hN rfl h6 (frame (frame Q2 O34 (by omega)) O56 (by omega)) (((O1.trans O2 (by simp)).nil O34 (by simp; omega)).nil O56 (by simp))
  · have hpos : 0 < L.length := List.length_pos_iff.2 hL
    rw [show ((L.length : Int) == (0 : Int)) = false by simp; omega, bcase_false]
    refine qseen55 Q2 hpos fun h3 Q3 O3 => ⟨_, _, rfl, ?_⟩
    refine stK_at (A2.only O3 (by simp)) (by simp) rfl fun h4 A4 O4 z4 => stK_at A4 (by simp) rfl fun h5 A5 O5 z5 => ?_
    refine ldI_of (n := (atL L 0).1) (by rw [A5.rd]; rfl) (ldI_of (n := (atL L 0).2) (by rw [A5.rd]; rfl) ⟨_, _, _, rfl, ?_⟩)
    have O45 := O4.trans O5 (by simp)
    refine stK_at ((B2.only O3 (by simp)).only O45 (by simp; omega)) (by simp) rfl fun h6 A6 O6 z6 => stK_at A6 (by simp) rfl fun h7 A7 O7 z7 => ?_
    refine ldI_of (n := (atL L 0).1) (by rw [A7.rd]; rfl) (ldI_of (n := (atL L 0).2) (by rw [A7.rd]; rfl) ?_)
    have O67 := O6.trans O7 (by simp)
    refine hK h7 hpos (frame (frame Q3 O45 (by omega)) O67 (by omega)) ?_
    exact (((O1.trans O2 (by simp)).trans O3 (by simp)).nil O45 (by simp; omega)).nil O67 (by simp)
end
end Go.Proofs.Ytkdegjjenbbjfaa.Ev
