/- WholeTotal: for every input the call returns true, and each argument reads behind the call as it read before it. Conditions: none. -/
import Derived.Test.YtnofenejoebkhaaGreatRows
import Derived.Test.YtnofenejoebkhaaGreatG8
namespace Go.Proofs.YtnofenejoebkhaaGreat.wholeTotal
open Go.ChangeShapes Go.WideShapes Go.ChangeAt Go.RowKit Go.Proofs.YtnofenejoebkhaaGreat.Ev

theorem own : ownKnob Tryz.prog.godebug = none := by kernel_rfl
theorem laid : laidOutB Tryz.prog = true := by kernel_rfl
theorem readable : Tryz.f16.params.toList.all (fun t => Tryz.prog.readableRec t && decide (t < Tryz.prog.types.size)) = true := by kernel_rfl
set_option maxRecDepth 100000 in
theorem lifted (os : Os) (started : os.Started) (H : Type) (enc : TypeId × Value → H) :
    ReturnsInHanded {} Tryz.checked os 16 .any (Rows.wholeTotalSpec.pre6 enc Tryz.prog Tryz.f16 Rows.wholeTotalRow.domain false) (Rows.wholeTotalSpec.post enc Tryz.prog Tryz.f16 false true false false) := by
  refine returnsInHanded_of_change (C := Tryz.checked) own started (by kernel_rfl) Tryz.func16
    (ChangeSpec.witness6 (enc := enc) (C := Tryz.checked) false ⟨#[], #[.int .i64 0, .int .i64 0, .int .i64 0, .slice none 0 0, .slice none 0 0, .agg #[.int .i64 0, .int .u32 0, .int .u32 0, .int .u32 0, .int .u8 0]], []⟩ 8 (by kernel_rfl) (by kernel_rfl) (by kernel_rfl) (by kernel_rfl)) ?_
  intro W base args ds gs before hval0 hW _ _
  have hval : ∀ (j : Nat) t v, Tryz.f16.params[j]? = some t → args[j]? = some v → Value.okWide Tryz.prog W .any base t v := hval0
  have hW' := hW
  obtain ⟨p, q, hA0, -, -, -, -⟩ := hW
  have hA : DataW.TrodAll enc Tryz.prog W 0 (fun _ => true) true Tryz.f16.params.toList args.toList ds p := hA0
  rw [Tryz.params16] at hA hval
  obtain ⟨v0, vs0, d0, ds0, p0, q0, hargs, rfl, -, h0, r0⟩ := trodAll_cons hA
  obtain ⟨v1, vs1, d1, ds1, p1, q1, rfl, rfl, -, h1, r1⟩ := trodAll_cons r0
  obtain ⟨v2, vs2, d2, ds2, p2, q2, rfl, rfl, -, h2, r2⟩ := trodAll_cons r1
  obtain ⟨v3, vs3, d3, ds3, p3, q3, rfl, rfl, -, h3, r3⟩ := trodAll_cons r2
  obtain ⟨v4, vs4, d4, ds4, p4, q4, rfl, rfl, -, h4, r4⟩ := trodAll_cons r3
  obtain ⟨v5, vs5, d5, ds5, p5, q5, rfl, rfl, -, h5, r5⟩ := trodAll_cons r4
  obtain ⟨rfl, rfl, -⟩ := trodAll_nil r5
  obtain rfl : args = #[v0, v1, v2, v3, v4, v5] := by cases args; simp_all
  obtain ⟨a0, rfl, rfl, -, w0⟩ := open_int Tryz.underlying3 (hval 0 3 v0 rfl rfl) h0
  obtain ⟨a1, rfl, rfl, -, w1⟩ := open_int Tryz.underlying3 (hval 1 3 v1 rfl rfl) h1
  obtain ⟨a2, rfl, rfl, -, w2⟩ := open_int Tryz.underlying3 (hval 2 3 v2 rfl rfl) h2
  obtain ⟨b3, c3, l3, s3, rfl, i3, m3, g3⟩ := open_ss Tryz.underlying72 Tryz.underlying41 (N := 7) (by kernel_rfl) (hval 3 72 v3 rfl rfl) h3 (fun _ => rfl)
  obtain ⟨b4, c4, z4, rfl, i4, g4, m4⟩ := open_sl Tryz.underlying84 Tryz.underlying3 (by kernel_rfl) (hval 4 84 v4 rfl rfl) h4 (fun _ => rfl)
  obtain ⟨c5, l5, e5, g5⟩ := open_struct (N := 5) Tryz.underlying66 (by kernel_rfl) (hval 5 66 v5 rfl rfl) h5
  obtain ⟨y5_0, f5_0, w5_0⟩ := g5 0 _ rfl (by kernel_rfl) (by decide) _ Tryz.underlying3
  obtain ⟨y5_1, f5_1, w5_1⟩ := g5 1 _ rfl (by kernel_rfl) (by decide) _ Tryz.underlying46
  obtain ⟨y5_2, f5_2, w5_2⟩ := g5 2 _ rfl (by kernel_rfl) (by decide) _ Tryz.underlying46
  obtain ⟨y5_3, f5_3, w5_3⟩ := g5 3 _ rfl (by kernel_rfl) (by decide) _ Tryz.underlying46
  obtain ⟨y5_4, f5_4, w5_4⟩ := g5 4 _ rfl (by kernel_rfl) (by decide) _ Tryz.underlying5
  obtain rfl := five l5 f5_0 f5_1 f5_2 f5_3 f5_4
  subst e5
  refine (law_calls (args := [.int .i64 a0, .int .i64 a1, .int .i64 a2, .slice b3 l3 c3, .slice b4 z4.length c4, .agg #[.int .i64 y5_0, .int .u32 y5_1, .int .u32 y5_2, .int .u32 y5_3, .int .u8 y5_4]]) (law16 W.heap a0 (wf_range w0) a1 (wf_range w1) a2 (wf_range w2) b3 c3 l3 s3 i3 m3 (fun j hj => (g3 j hj 0 _ rfl (by kernel_rfl) (by decide)).1 _ Tryz.underlying3) (fun j hj => (g3 j hj 1 _ rfl (by kernel_rfl) (by decide)).1 _ Tryz.underlying3) (fun j hj => (g3 j hj 2 _ rfl (by kernel_rfl) (by decide)).1 _ Tryz.underlying3) (fun j hj => (g3 j hj 3 _ rfl (by kernel_rfl) (by decide)).1 _ Tryz.underlying3) (fun j hj => (g3 j hj 4 _ rfl (by kernel_rfl) (by decide)).1 _ Tryz.underlying3) (fun j hj => (g3 j hj 5 _ rfl (by kernel_rfl) (by decide)).1 _ Tryz.underlying3) (fun j hj => (g3 j hj 6 _ rfl (by kernel_rfl) (by decide)).1 _ Tryz.underlying5) b4 c4 z4 i4 g4 m4 y5_0 w5_0 y5_1 w5_1 y5_2 w5_2 y5_3 w5_3 y5_4 w5_4)).mono fun e W' ⟨he, hg, hf⟩ => ?_
  subst he
  exact ⟨_, rfl, post_law laid readable rfl Tryz.underlying4 rfl hW' rfl hg hf⟩

theorem both {a b : Bool} (x : a = true) (y : b = true) : (a && b) = true := by rw [x, y]; rfl
theorem j0 : (Rows.wholeTotalRow.wf (OpenSpec.ofChange Rows.wholeTotalSpec)) = true := by kernel_rfl
theorem j1 : (laidOutB Tryz.prog) = true := by kernel_rfl
theorem j2 : (mapsRowed Tryz.prog) = true := by kernel_rfl
theorem j3 : (Tryz.f16.params.all (Tryz.prog.readableRec ·)) = true := by kernel_rfl
theorem j4 : (namedTie Tryz.prog Rows.wholeTotalRow.named Rows.wholeTotalSpec.vars) = true := by kernel_rfl
theorem j5 : ((Rows.wholeTotalRow.stops == [])) = true := by kernel_rfl
theorem j6 : ((Tryz.prog.stops == [])) = true := by kernel_rfl
theorem j7 : ((Rows.wholeTotalRow.knobs == [])) = true := by kernel_rfl
theorem j8 : ((Tryz.prog.stopKnobs == [])) = true := by kernel_rfl
theorem j9 : ((Rows.wholeTotalRow.inPlace == Tryz.prog.inPlace 16)) = true := by kernel_rfl
theorem j10 : ((Rows.wholeTotalRow.unfollowed == Tryz.prog.unfollowed 16)) = true := by kernel_rfl
theorem j11 : ((Rows.wholeTotalRow.recurses == Tryz.prog.recurses 16)) = true := by kernel_rfl
theorem j12 : ((Rows.wholeTotalRow.named == Tryz.prog.varsNamed 16)) = true := by kernel_rfl
theorem j13 : ((Rows.wholeTotalRow.maps == (Tryz.f16.params.toList ++ Rows.wholeTotalSpec.plain.varTypes Tryz.prog).any (Tryz.prog.mapsRec ·))) = true := by kernel_rfl
theorem j14 : ((Rows.wholeTotalRow.ifaces == (Tryz.f16.params.toList ++ Rows.wholeTotalSpec.plain.varTypes Tryz.prog).any (Tryz.prog.ifacesRec ·))) = true := by kernel_rfl
theorem j15 : ((Rows.wholeTotalRow.mapsOut == Tryz.prog.mapsAmong Tryz.f16.resultTypes.toList)) = true := by kernel_rfl
theorem j16 : ((Rows.wholeTotalRow.loops == (Tryz.f16.params.toList ++ Rows.wholeTotalSpec.plain.varTypes Tryz.prog).any (Tryz.prog.loopsFrom ·))) = true := by kernel_rfl
theorem j17 : ((Rows.wholeTotalRow.wideKeys == (Tryz.f16.params.toList ++ Rows.wholeTotalSpec.plain.varTypes Tryz.prog ++ Tryz.f16.resultTypes.toList).any (Tryz.prog.wideKeysFrom ·))) = true := by kernel_rfl
theorem j18 : (Rows.wholeTotalSpec.vars.all (Tryz.prog.varReadable ·)) = true := by kernel_rfl
theorem j19 : (Tryz.f16.resultTypes.all (fun t => Tryz.prog.readableRec t && decide (t < Tryz.prog.types.size))) = true := by kernel_rfl
theorem j20 : ((Rows.wholeTotalRow.ifacesOut == Tryz.f16.resultTypes.toList.any (Tryz.prog.ifacesRec ·))) = true := by kernel_rfl
theorem j21 : ((Rows.wholeTotalRow.loopsOut == Tryz.f16.resultTypes.toList.any (Tryz.prog.loopsFrom ·))) = true := by kernel_rfl
theorem j22 : ((Rows.wholeTotalRow.plainKeys == Tryz.prog.plainKeys)) = true := by kernel_rfl
theorem j23 : (Rows.wholeTotalRow.shortTexts.isNone) = true := by kernel_rfl
theorem j24 : (Tryz.prog.stopsHeard) = true := by kernel_rfl
theorem j25 : (Tryz.prog.mayEnter) = true := by kernel_rfl
theorem j26 : ((Rows.wholeTotalRow.lifted == Tryz.prog.liftsFinal)) = true := by kernel_rfl
theorem j27 : ((Tryz.prog.make == some Rows.wholeTotalRow.make)) = true := by kernel_rfl
theorem j29 : ((Rows.wholeTotalRow.pinned == Rows.wholeTotalRow.pinnedBy)) = true := by kernel_rfl
theorem j30 : ((Rows.wholeTotalRow.veiled == (Tryz.f16.params.toList ++ Rows.wholeTotalSpec.plain.varTypes Tryz.prog ++ Tryz.f16.resultTypes.toList).any (Tryz.prog.veiledRec ·))) = true := by kernel_rfl
theorem j31 : (Rows.wholeTotalRow.veiledFits Tryz.prog Tryz.f16.params.toList (Tryz.f16.params.toList ++ Rows.wholeTotalSpec.plain.varTypes Tryz.prog ++ Tryz.f16.resultTypes.toList)) = true := by kernel_rfl
theorem joined : joinedFacts Tryz.prog 16 Tryz.f16 Rows.wholeTotalSpec Rows.wholeTotalRow = true := by
  unfold joinedFacts
  exact (both (both (both (both (both (both (both (both (both (both (both (both (both (both (both (both (both (both (both (both (both (both (both (both (both (both (both (both (both (both (both j0 j1) j2) j3) j4) j5) j6) j7) j8) j9) j10) j11) j12) j13) j14) j15) j16) j17) j18) j19) j20) j21) j22) j23) j24) j25) j26) j27) (by kernel_rfl)) j29) j30) j31)
theorem named : Tryz.prog.funcNamed Rows.wholeTotalRow.func = some 16 := by kernel_rfl
theorem inst : Tryz.f16.isInstance Tryz.prog Rows.wholeTotalRow.origin Rows.wholeTotalRow.targs := of_decide_eq_true (by kernel_rfl)
theorem wrap : Tryz.f16.isWrapper Tryz.prog Rows.wholeTotalRow.wrapper Rows.wholeTotalRow.mainSum := by
  unfold Func.isWrapper; first | (rw [if_pos (by decide +kernel)]; kernel_rfl) | (rw [if_neg (by decide +kernel)]; exact ⟨rfl, rfl⟩)
theorem proved : Rows.WholeTotalSaid :=
  OpenClaim.holds_of_wide 16 Tryz.f16 rfl rfl rfl rfl rfl rfl rfl ⟨rfl, rfl, rfl, rfl, rfl⟩ rfl rfl rfl rfl rfl named Tryz.func16 joined inst wrap
    (fun os started H enc _ => lifted os started H enc)
end Go.Proofs.YtnofenejoebkhaaGreat.wholeTotal
