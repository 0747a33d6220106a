/- EngineRegs: for every input the call returns true, and each argument reads behind the call as it read before it. Conditions: none. -/
import Derived.Test.YtnofenejoebkhaaGreatRows
import Derived.Test.YtnofenejoebkhaaGreatG8
namespace Go.Proofs.YtnofenejoebkhaaGreat.engineRegs
open Go.ChangeShapes Go.WideShapes Go.ChangeAt Go.RowKit Go.Proofs.YtnofenejoebkhaaGreat.Ev

theorem own : ownKnob Tryz.prog.godebug = none := by kernel_rfl
theorem laid : laidOutB Tryz.prog = true := by kernel_rfl
theorem readable : Tryz.f11.params.toList.all (fun t => Tryz.prog.readableRec t && decide (t < Tryz.prog.types.size)) = true := by kernel_rfl
set_option maxRecDepth 100000 in
theorem lifted (os : Os) (started : os.Started) (H : Type) (enc : TypeId × Value → H) :
    ReturnsInHanded {} Tryz.checked os 11 .any (Rows.engineRegsSpec.pre6 enc Tryz.prog Tryz.f11 Rows.engineRegsRow.domain false) (Rows.engineRegsSpec.post enc Tryz.prog Tryz.f11 false true false false) := by
  refine returnsInHanded_of_change (C := Tryz.checked) own started (by kernel_rfl) Tryz.func11
    (ChangeSpec.witness6 (enc := enc) (C := Tryz.checked) false ⟨#[], #[.int .i64 0, .int .i64 0, .agg #[.int .i64 0, .int .i64 0, .int .i64 0, .int .i64 0, .int .i64 0, .int .i64 0, .int .u8 0]], []⟩ 8 (by kernel_rfl) (by kernel_rfl) (by kernel_rfl) (by kernel_rfl)) ?_
  intro W base args ds gs before hval0 hW _ _
  have hval : ∀ (j : Nat) t v, Tryz.f11.params[j]? = some t → args[j]? = some v → Value.okWide Tryz.prog W .any base t v := hval0
  have hW' := hW
  obtain ⟨p, q, hA0, -, -, -, -⟩ := hW
  have hA : DataW.TrodAll enc Tryz.prog W 0 (fun _ => true) true Tryz.f11.params.toList args.toList ds p := hA0
  rw [Tryz.params11] at hA hval
  obtain ⟨v0, vs0, d0, ds0, p0, q0, hargs, rfl, -, h0, r0⟩ := trodAll_cons hA
  obtain ⟨v1, vs1, d1, ds1, p1, q1, rfl, rfl, -, h1, r1⟩ := trodAll_cons r0
  obtain ⟨v2, vs2, d2, ds2, p2, q2, rfl, rfl, -, h2, r2⟩ := trodAll_cons r1
  obtain ⟨rfl, rfl, -⟩ := trodAll_nil r2
  obtain rfl : args = #[v0, v1, v2] := by cases args; simp_all
  obtain ⟨a0, rfl, rfl, -, w0⟩ := open_int Tryz.underlying3 (hval 0 3 v0 rfl rfl) h0
  obtain ⟨a1, rfl, rfl, -, w1⟩ := open_int Tryz.underlying3 (hval 1 3 v1 rfl rfl) h1
  obtain ⟨c2, l2, e2, g2⟩ := open_struct (N := 7) Tryz.underlying41 (by kernel_rfl) (hval 2 41 v2 rfl rfl) h2
  obtain ⟨y2_0, f2_0, w2_0⟩ := g2 0 _ rfl (by kernel_rfl) (by decide) _ Tryz.underlying3
  obtain ⟨y2_1, f2_1, w2_1⟩ := g2 1 _ rfl (by kernel_rfl) (by decide) _ Tryz.underlying3
  obtain ⟨y2_2, f2_2, w2_2⟩ := g2 2 _ rfl (by kernel_rfl) (by decide) _ Tryz.underlying3
  obtain ⟨y2_3, f2_3, w2_3⟩ := g2 3 _ rfl (by kernel_rfl) (by decide) _ Tryz.underlying3
  obtain ⟨y2_4, f2_4, w2_4⟩ := g2 4 _ rfl (by kernel_rfl) (by decide) _ Tryz.underlying3
  obtain ⟨y2_5, f2_5, w2_5⟩ := g2 5 _ rfl (by kernel_rfl) (by decide) _ Tryz.underlying3
  obtain ⟨y2_6, f2_6, w2_6⟩ := g2 6 _ rfl (by kernel_rfl) (by decide) _ Tryz.underlying5
  obtain rfl := seven l2 f2_0 f2_1 f2_2 f2_3 f2_4 f2_5 f2_6
  subst e2
  refine (law_calls (args := [.int .i64 a0, .int .i64 a1, .agg #[.int .i64 y2_0, .int .i64 y2_1, .int .i64 y2_2, .int .i64 y2_3, .int .i64 y2_4, .int .i64 y2_5, .int .u8 y2_6]]) (law11 W.heap a0 (wf_range w0) a1 (wf_range w1) y2_0 w2_0 y2_1 w2_1 y2_2 w2_2 y2_3 w2_3 y2_4 w2_4 y2_5 w2_5 y2_6 w2_6)).mono fun e W' ⟨he, hg, hf⟩ => ?_
  subst he
  exact ⟨_, rfl, post_law laid readable rfl Tryz.underlying4 rfl hW' rfl hg hf⟩

theorem both {a b : Bool} (x : a = true) (y : b = true) : (a && b) = true := by rw [x, y]; rfl
theorem j0 : (Rows.engineRegsRow.wf (OpenSpec.ofChange Rows.engineRegsSpec)) = true := by kernel_rfl
theorem j1 : (laidOutB Tryz.prog) = true := by kernel_rfl
theorem j2 : (mapsRowed Tryz.prog) = true := by kernel_rfl
theorem j3 : (Tryz.f11.params.all (Tryz.prog.readableRec ·)) = true := by kernel_rfl
theorem j4 : (namedTie Tryz.prog Rows.engineRegsRow.named Rows.engineRegsSpec.vars) = true := by kernel_rfl
theorem j5 : ((Rows.engineRegsRow.stops == [])) = true := by kernel_rfl
theorem j6 : ((Tryz.prog.stops == [])) = true := by kernel_rfl
theorem j7 : ((Rows.engineRegsRow.knobs == [])) = true := by kernel_rfl
theorem j8 : ((Tryz.prog.stopKnobs == [])) = true := by kernel_rfl
theorem j9 : ((Rows.engineRegsRow.inPlace == Tryz.prog.inPlace 11)) = true := by kernel_rfl
theorem j10 : ((Rows.engineRegsRow.unfollowed == Tryz.prog.unfollowed 11)) = true := by kernel_rfl
theorem j11 : ((Rows.engineRegsRow.recurses == Tryz.prog.recurses 11)) = true := by kernel_rfl
theorem j12 : ((Rows.engineRegsRow.named == Tryz.prog.varsNamed 11)) = true := by kernel_rfl
theorem j13 : ((Rows.engineRegsRow.maps == (Tryz.f11.params.toList ++ Rows.engineRegsSpec.plain.varTypes Tryz.prog).any (Tryz.prog.mapsRec ·))) = true := by kernel_rfl
theorem j14 : ((Rows.engineRegsRow.ifaces == (Tryz.f11.params.toList ++ Rows.engineRegsSpec.plain.varTypes Tryz.prog).any (Tryz.prog.ifacesRec ·))) = true := by kernel_rfl
theorem j15 : ((Rows.engineRegsRow.mapsOut == Tryz.prog.mapsAmong Tryz.f11.resultTypes.toList)) = true := by kernel_rfl
theorem j16 : ((Rows.engineRegsRow.loops == (Tryz.f11.params.toList ++ Rows.engineRegsSpec.plain.varTypes Tryz.prog).any (Tryz.prog.loopsFrom ·))) = true := by kernel_rfl
theorem j17 : ((Rows.engineRegsRow.wideKeys == (Tryz.f11.params.toList ++ Rows.engineRegsSpec.plain.varTypes Tryz.prog ++ Tryz.f11.resultTypes.toList).any (Tryz.prog.wideKeysFrom ·))) = true := by kernel_rfl
theorem j18 : (Rows.engineRegsSpec.vars.all (Tryz.prog.varReadable ·)) = true := by kernel_rfl
theorem j19 : (Tryz.f11.resultTypes.all (fun t => Tryz.prog.readableRec t && decide (t < Tryz.prog.types.size))) = true := by kernel_rfl
theorem j20 : ((Rows.engineRegsRow.ifacesOut == Tryz.f11.resultTypes.toList.any (Tryz.prog.ifacesRec ·))) = true := by kernel_rfl
theorem j21 : ((Rows.engineRegsRow.loopsOut == Tryz.f11.resultTypes.toList.any (Tryz.prog.loopsFrom ·))) = true := by kernel_rfl
theorem j22 : ((Rows.engineRegsRow.plainKeys == Tryz.prog.plainKeys)) = true := by kernel_rfl
theorem j23 : (Rows.engineRegsRow.shortTexts.isNone) = true := by kernel_rfl
theorem j24 : (Tryz.prog.stopsHeard) = true := by kernel_rfl
theorem j25 : (Tryz.prog.mayEnter) = true := by kernel_rfl
theorem j26 : ((Rows.engineRegsRow.lifted == Tryz.prog.liftsFinal)) = true := by kernel_rfl
theorem j27 : ((Tryz.prog.make == some Rows.engineRegsRow.make)) = true := by kernel_rfl
theorem j29 : ((Rows.engineRegsRow.pinned == Rows.engineRegsRow.pinnedBy)) = true := by kernel_rfl
theorem j30 : ((Rows.engineRegsRow.veiled == (Tryz.f11.params.toList ++ Rows.engineRegsSpec.plain.varTypes Tryz.prog ++ Tryz.f11.resultTypes.toList).any (Tryz.prog.veiledRec ·))) = true := by kernel_rfl
theorem j31 : (Rows.engineRegsRow.veiledFits Tryz.prog Tryz.f11.params.toList (Tryz.f11.params.toList ++ Rows.engineRegsSpec.plain.varTypes Tryz.prog ++ Tryz.f11.resultTypes.toList)) = true := by kernel_rfl
theorem joined : joinedFacts Tryz.prog 11 Tryz.f11 Rows.engineRegsSpec Rows.engineRegsRow = true := by
  unfold joinedFacts
  exact (both (both (both (both (both (both (both (both (both (both (both (both (both (both (both (both (both (both (both (both (both (both (both (both (both (both (both (both (both (both (both j0 j1) j2) j3) j4) j5) j6) j7) j8) j9) j10) j11) j12) j13) j14) j15) j16) j17) j18) j19) j20) j21) j22) j23) j24) j25) j26) j27) (by kernel_rfl)) j29) j30) j31)
theorem named : Tryz.prog.funcNamed Rows.engineRegsRow.func = some 11 := by kernel_rfl
theorem inst : Tryz.f11.isInstance Tryz.prog Rows.engineRegsRow.origin Rows.engineRegsRow.targs := of_decide_eq_true (by kernel_rfl)
theorem wrap : Tryz.f11.isWrapper Tryz.prog Rows.engineRegsRow.wrapper Rows.engineRegsRow.mainSum := by
  unfold Func.isWrapper; first | (rw [if_pos (by decide +kernel)]; kernel_rfl) | (rw [if_neg (by decide +kernel)]; exact ⟨rfl, rfl⟩)
theorem proved : Rows.EngineRegsSaid :=
  OpenClaim.holds_of_wide 11 Tryz.f11 rfl rfl rfl rfl rfl rfl rfl ⟨rfl, rfl, rfl, rfl, rfl⟩ rfl rfl rfl rfl rfl named Tryz.func11 joined inst wrap
    (fun os started H enc _ => lifted os started H enc)
end Go.Proofs.YtnofenejoebkhaaGreat.engineRegs
