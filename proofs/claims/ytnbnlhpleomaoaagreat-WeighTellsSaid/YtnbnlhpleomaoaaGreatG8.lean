/- PART 8 OF WHAT THE LAW WeighTells STANDS ON: LawF4. Conditions: each part names its own. -/
import Derived.Test.YtnbnlhpleomaoaaGreatG7
/- THE LAWS OF LAYER 30: WeighTells. Conditions: the arguments are in their kinds' bounds. -/
namespace Go.Proofs.YtnbnlhpleomaoaaGreat.Ev
open Go
theorem natL_snoc (l : List Nat) (y : Nat) : (natL (l ++ [y])).map (Value.int .i64) = (natL l).map (Value.int .i64) ++ [.int .i64 (y : Int)] := by simp [natL]
theorem bestV_bound {c : List Int} (H : COk c) (T : List Nat) : -8000 ≤ bestV c T ∧ bestV c T ≤ 8000 := by
  unfold bestV
  split
  · have := cst_bound H (bestF c T).1 c.length
    have := H.1
    omega
  · omega
set_option maxRecDepth 100000 in
theorem tells_loop {h0 h : Heap} {s r cc n x lo bf : Nat} {x3 : Int} {L : List Nat} {X : SX} {cp : Option Addr} {c : List Int} {g : Nat → Nat} (hXn : X.n = n) (hn8 : n ≤ 8) (hf : ∀ j, j < X.n → X.f j < 8) (H : Sto h s L X) (hr : isN X.N r)
    (hg : WOk g) (A : At h bf (wrow g)) (hs : ∀ x, x < 256 → sm X.n X.f X.N r x = fb g x) (hl : c.length ≤ 12) (hc : Ints h .i64 cp c) (hx : x < 256) (hlo : lo = h.size) (O0 : Only [] h0 h) :
    F3.wk15 cp c.length cc x3 (x : Int) ⟨bf, 0, none⟩ (n : Int) (some ⟨s, 0, none⟩) (r : Int) true 0 0 0 false none 0 0 0 0 h (Lawful h0) := by
  have h256 := two_pow_le hn8
  have e2 : IntKind.wrap .i64 (1 * 2 ^ (min (Int.toNat (n : Int)) (IntKind.bits .i64))) = ((2 ^ n : Nat) : Int) := by
    rw [show min (Int.toNat (n : Int)) (IntKind.bits .i64) = n by
      rw [Int.toNat_natCast]
      show min n 64 = n
      omega, Int.one_mul, show ((2 : Int) ^ n) = ((2 ^ n : Nat) : Int) by simp]
    generalize 2 ^ n = q at h256
    exact wrap_i64 (by omega) (by omega)
  have wn : IntKind.wrap .u64 (n : Int) = (n : Int) := wrapU (by unfold U64; omega)
  have bfl : bf < lo := by rw [hlo]; exact A.lt
  have Ll : ∀ b ∈ L, b < lo := fun b hb => by rw [hlo]; exact H.lt b hb
  have cpl : c.length ≠ 0 → ∀ a, cp = some a → a.block < lo := fun hne a ea => by
    obtain ⟨ad, e1, r1⟩ := hc 0 (by omega)
    rw [ea] at e1
    injection e1 with e1
    subst e1
    rw [hlo]
    apply Classical.byContradiction
    intro hn
    have hab : (a.add 0).block = a.block := by rw [add_zero]
    have : h[(a.add 0).block]? = none := Array.getElem?_eq_none (by rw [hab]; omega)
    simp [rd, this] at r1
  unfold F3.wk15 F3.Jk15
  have main : ∀ (d y : Nat) (h' : Heap) (pl : Option Addr) (cl : Nat), y + d = 2 ^ n → At h' bf (wrow g) → Sto h' s L X → Ints h' .i64 cp c → Own h' lo 1 pl (trs (fb g) y).length cl ((natL (trs (fb g) y)).map (Value.int .i64)) → Only [] h h' →
      F3.wL15 (d + 1) cp c.length cc x3 (x : Int) ⟨bf, 0, none⟩ (n : Int) (some ⟨s, 0, none⟩) (r : Int) true (seenB c n (trs (fb g) y)) (seenV c n (trs (fb g) y)) (seenS c n (trs (fb g) y)) (seenF c n (trs (fb g) y)) pl (trs (fb g) y).length cl (below (trs (fb g) y) x : Int) (y : Int) h' (Lawful h0) := by
    intro d
    induction d with
    | zero =>
      intro y h' pl cl hd A S hc Ow O
      unfold F3.wL15 F3.JL15
      rw [wn, e2]
      refine ⟨by omega, ?_⟩
      rw [decide_eq_false (by omega), bcase_false]
      have ey : y = 2 ^ n := by omega
      subst ey
      exact tells_end hXn hn8 hf S hr hs hl hc hx Ow (O0.trans O (by simp))
    | succ d ih =>
      intro y h' pl cl hd A S hc Ow O
      have hy : y < 2 ^ n := by omega
      have hy8 : y < 256 := by omega
      have ey : IntKind.wrap .i64 ((y : Int) + 1) = ((y + 1 : Nat) : Int) := by rw [wrap_i64 (by omega) (by omega)]; omega
      unfold F3.wL15 F3.JL15
      rw [wn, e2]
      refine ⟨by omega, ?_⟩
      rw [decide_eq_true (by omega), bcase_true, wrap8 hy8, ey]
      refine rd4 A (eval14 hg hy8 fun h1 O1 => ldB_of rfl ?_)
      have A1 := A.only O1 (by simp)
      have S1 := S.only0 O1
      have I1 := hc.only' O1 (by simp)
      have Ow1 := Ow.only O1 (by simp)
      have OO1 := O.trans O1 (by simp)
      refine bcase_of (fun hb => ?_) fun hb => ?_
      · have hb : fb g y = false := by simpa using hb
        have := ih (y + 1) h1 pl cl (by omega) A1 S1 I1 (by rw [trs_succ, hb]; simpa using Ow1) OO1
        rw [trs_succ, hb] at this
        simpa using this
      · have hb : fb g y = true := by simpa using hb
        have et : trs (fb g) (y + 1) = trs (fb g) y ++ [y] := by rw [trs_succ, hb, if_pos rfl]
        refine newK_at fun h2 A2 O2 z2 => ?_
        have z01 := OO1.size
        have hTl := trs_len_le (fb g) y
        refine own_app (new := [.int .i64 (y : Int)]) (Ow1.only O2 (by simp)) A2 rfl rfl (by omega) (by simp [Value.oneCell']) (by omega) fun pl' cl' h3 Ow3 O3 hfr => ?_
        have lo3 : ∀ b ∈ OwnB pl, lo ≤ b := fun b hb => (Ow1.lt b hb).1
        have A3 := (A1.only O2 (by simp)).only O3 (fun hm => by have := lo3 _ hm; omega)
        have S3 := (S1.only0 O2).only O3 (fun b hb hm => by have := lo3 _ hb; have := Ll _ hm; omega)
        have I3 : Ints h3 .i64 cp c := fun i hi => ((I1.only' O2 (by simp)).only' O3 (fun a ea hm => by
          have := lo3 _ hm
          have := cpl (by omega) a ea
          omega)) i hi
        have O03 : Only [] h h3 := (OO1.trans O2 (by simp)).trans O3 (fun b hb hlt => by have := lo3 _ hb; omega)
        have Ow3' : Own h3 lo 1 pl' (trs (fb g) (y + 1)).length cl' ((natL (trs (fb g) (y + 1))).map (Value.int .i64)) := by
          rw [et, natL_snoc]
          simpa using Ow3
        have el : (trs (fb g) (y + 1)).length = (trs (fb g) y).length + 1 := by rw [et]; simp
        have ebl : (below (trs (fb g) (y + 1)) x : Int) = (below (trs (fb g) y) x : Int) + if y < x then 1 else 0 := by
          rw [et, below_snoc]
          split <;> simp
        have hbl := below_le (trs (fb g) y) x
        have eb : IntKind.wrap .i64 ((below (trs (fb g) y) x : Int) + 1) = (below (trs (fb g) y) x : Int) + 1 := wrap_i64 (by omega) (by omega)
        -- what comes behind
        have nxt : F3.wk21 (fun x2p x2l x2c x3 x4 x6 x11 x12 x14 x15 x16 x17 x18 x19 x20p x20l x20c x21 x22 h => F3.wL15 (d + 1) x2p x2l x2c x3 x4 x6 x11 x12 x14 x15 x16 x17 x18 x19 x20p x20l x20c x21 x22 h (Lawful h0)) cp c.length cc x3 (x : Int) ⟨bf, 0, none⟩ (n : Int) (some ⟨s, 0, none⟩) (r : Int) true (seenB c n (trs (fb g) y)) (seenV c n (trs (fb g) y)) (seenS c n (trs (fb g) y)) (seenF c n (trs (fb g) y)) pl' ((trs (fb g) y).length + 1) cl' (below (trs (fb g) (y + 1)) x : Int) (y : Int) h3 (Lawful h0) := by
          unfold F3.wk21 F3.Jk21
          refine fits15 hl I3 (ldB_of (n := okF c n) rfl ?_)
          dsimp only
          rw [ey]
          cases hok : okF c n with
          | false =>
            rw [Bool.not_false, bcase_true]
            have := ih (y + 1) h3 pl' cl' (by omega) A3 S3 I3 Ow3' O03
            rw [el] at this
            unfold seenB seenV seenS seenF at this ⊢
            rw [hok] at this ⊢
            exact this
          | true =>
            obtain ⟨hco, hln, hbd⟩ := cok_okF hn8 hok
            rw [Bool.not_true, bcase_false]
            refine cost16 hy8 hco I3 (ldI_of rfl ?_)
            have := ih (y + 1) h3 pl' cl' (by omega) A3 S3 I3 Ow3' O03
            rw [el] at this
            unfold seenB seenV seenS seenF at this ⊢
            rw [hok] at this ⊢
            simp only [if_true] at this ⊢
            rw [et] at this
            have hsb := sumC_bound hco (trs (fb g) y)
            have hcb := cst_bound hco y c.length
            have h8 := hco.1
            have es : IntKind.wrap .i64 (sumC c (trs (fb g) y) + cst c y c.length) = sumC c (trs (fb g) y ++ [y]) := by
              rw [sumC_snoc]
              exact wrap_i64 (by omega) (by omega)
            rw [es, et]
            have eB := bestF_snoc c (trs (fb g) y) y
            unfold bst at eB
            cases hf2 : (bestF c (trs (fb g) y)).2 with
            | false =>
              rw [Bool.not_false, bcase_true]
              rw [hf2] at eB
              simp only [Bool.not_false, Bool.true_or, if_true] at eB
              unfold bestV at this
              rw [eB] at this
              simp only [if_true] at this
              exact this
            | true =>
              rw [Bool.not_true, bcase_false]
              rw [hf2] at eB
              simp only [Bool.not_true, Bool.false_or] at eB
              have eV : bestV c (trs (fb g) y) = cst c (bestF c (trs (fb g) y)).1 c.length := by unfold bestV; rw [hf2, if_pos rfl]
              rw [eV]
              refine bcase_of (fun hlt => ?_) fun hlt => ?_
              · rw [if_pos hlt] at eB
                unfold bestV at this
                rw [eB] at this
                simp only [if_true] at this
                exact this
              · rw [if_neg (by rw [hlt]; simp)] at eB
                unfold bestV at this
                rw [eB, hf2] at this
                simp only [if_true] at this
                exact this
        rw [wrap_i64 (n := (x : Int)) (by omega) (by omega)]
        refine bcase_of (fun e => ?_) fun e => ?_
        · have e := of_decide_eq_true e
          rw [eb]
          rw [if_pos (by omega)] at ebl
          rw [ebl] at nxt
          exact nxt
        · have e := of_decide_eq_false e
          rw [if_neg (by omega), Int.add_zero] at ebl
          rw [ebl] at nxt
          exact nxt
  have st := main (2 ^ n) 0 h none 0 (by omega) A H hc (Own.nil _ _ _) (Only.refl _ _)
  have z : seenB c n (trs (fb g) 0) = 0 ∧ seenV c n (trs (fb g) 0) = 0 ∧ seenS c n (trs (fb g) 0) = 0 ∧ seenF c n (trs (fb g) 0) = false := by
    unfold seenB seenV seenS seenF
    cases okF c n <;> simp [trs, bestF, bestV, sumC]
  rw [z.1, z.2.1, z.2.2.1, z.2.2.2] at st
  exact ⟨_, st⟩
set_option maxRecDepth 100000 in
theorem law3 (h : Heap) (x0 : Int) (r0 : IntKind.min .u8 ≤ x0 ∧ x0 ≤ IntKind.max .u8) (z : List Int) (lz : z.length = 4) (rz : ∀ y ∈ z, IntKind.min .u64 ≤ y ∧ y ≤ IntKind.max .u64)
    (cp : Option Addr) (cc : Nat) (c : List Int) (hc : Ints h .i64 cp c) (_hr : ∀ z ∈ c, IntKind.min .i64 ≤ z ∧ z ≤ IntKind.max .i64) (_hm : (c.length : Int) ≤ maxLen)
    (x3 : Int) (_r3 : IntKind.min .i64 ≤ x3 ∧ x3 ≤ IntKind.max .i64) (x4 : Int) (r4 : IntKind.min .u8 ≤ x4 ∧ x4 ≤ IntKind.max .u8) :
    CallsH Tryz.prog 3 [.int .u8 x0, .agg (z.map (Value.int .u64)).toArray, .slice cp c.length cc, .int .i64 x3, .int .u8 x4] h (Lawful h) := by
  obtain ⟨g, hg, eg⟩ := arrW lz rz
  rw [eg]
  obtain ⟨x, rfl, hx⟩ : ∃ x : Nat, x4 = x ∧ x < 256 := by
    have h1 : 0 ≤ x4 := r4.1
    have h2 : x4 ≤ 255 := r4.2
    exact ⟨x4.toNat, by omega, by omega⟩
  refine F3.spec _ _ _ _ _ _ _ _ _ _ h _ ?_
  unfold F3.w F3.J0
  refine newK_at fun h1 A1 O1 z1 => ?_
  replace A1 : At h1 h.size (wrow g) := A1
  refine known10 fun h2 O2 => ldB_of rfl ?_
  rw [Bool.not_true, bcase_false]
  have O12 := O1.trans O2 (by simp)
  refine bcase_of (fun _ => ⟨rfl, O12⟩) fun hl => ⟨by decide, ?_⟩
  have hl := of_decide_eq_false hl
  obtain ⟨n, n1, n8, en⟩ := nvars r0
  rw [en]
  refine sto_new (n := n) (room := 400) (Q := fun _ _ => True) n1 n8 (by omega) (by omega) fun h3 s L S3 O3 g3 => ⟨_, _, rfl, ?_⟩
  rw [show ((0 : Int) != 0) = false from rfl, bcase_false]
  have A3 := (A1.only O2 (by simp)).only O3 (by simp)
  have O03 := O12.trans O3 (by simp)
  have z12 := O2.size
  have z23 := O3.size
  refine rd4 A3 (trim12 hg fun h4 g' hg' hgb O4 => ⟨_, _, _, _, rfl, ?_⟩)
  have A4 := A3.only O4 (by simp)
  refine wr_put (g := g') A4 fun h5 A5 O5 => rd4 A5 ?_
  have S5 := (S3.only0 O4).only O5 (fun b hb hm => by have := g3 b hm; simp at hb; omega)
  have O05 : Only [] h h5 := (O03.trans O4 (by simp)).trans O5 (by intro b hb hl; simp at hb; omega)
  refine make13 S5 (fill_8 n8) hg' (fill_indep n8 (trim_indep (n := n) (by simpa using hgb))) (by have := bdn_le n8; show clN _ [] + bdn n 0 + 2 ≤ 400; rw [cl_nil]; omega) fun h6 L6 N6 r E6 hr hs hcl S6 O6 F6 => ⟨_, _, rfl, ?_⟩
  have z05 := O05.size
  have O06 : Only [] h h6 := O05.grow O6 fun b hb => by have := g3 b hb; omega
  have A6 := A5.only O6 (fun hm => by have := g3 _ hm; omega)
  have hc6 := hc.only' O06 (by simp)
  exact tells_loop (lo := h6.size) (X := { X0 n 400 with N := N6 }) rfl n8 (fill_8 n8) S6 hr hg' A6 hs (by omega) hc6 hx rfl O06
end Go.Proofs.YtnbnlhpleomaoaaGreat.Ev
