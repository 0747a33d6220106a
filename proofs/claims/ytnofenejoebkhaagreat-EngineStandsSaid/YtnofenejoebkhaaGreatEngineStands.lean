/- EngineStands: for every input the call returns true, and each argument reads behind the call as it read before it. Conditions: none. -/
import Derived.Test.YtnofenejoebkhaaGreatRows
import Derived.Test.YtnofenejoebkhaaGreatG8
namespace Go.Proofs.YtnofenejoebkhaaGreat.engineStands
open Go.ChangeShapes Go.WideShapes Go.ChangeAt Go.RowKit Go.Proofs.YtnofenejoebkhaaGreat.Ev

theorem own : ownKnob Tryz.prog.godebug = none := by kernel_rfl
theorem laid : laidOutB Tryz.prog = true := by kernel_rfl
theorem readable : Tryz.f12.params.toList.all (fun t => Tryz.prog.readableRec t && decide (t < Tryz.prog.types.size)) = true := by kernel_rfl
set_option maxRecDepth 100000 in
theorem lifted (os : Os) (started : os.Started) (H : Type) (enc : TypeId × Value → H) :
    ReturnsInHanded {} Tryz.checked os 12 .any (Rows.engineStandsSpec.pre6 enc Tryz.prog Tryz.f12 Rows.engineStandsRow.domain false) (Rows.engineStandsSpec.post enc Tryz.prog Tryz.f12 false true false false) := by
  refine returnsInHanded_of_change (C := Tryz.checked) own started (by kernel_rfl) Tryz.func12
    (ChangeSpec.witness6 (enc := enc) (C := Tryz.checked) false ⟨#[], #[.slice none 0 0, .slice none 0 0], []⟩ 8 (by kernel_rfl) (by kernel_rfl) (by kernel_rfl) (by kernel_rfl)) ?_
  intro W base args ds gs before hval0 hW _ _
  have hval : ∀ (j : Nat) t v, Tryz.f12.params[j]? = some t → args[j]? = some v → Value.okWide Tryz.prog W .any base t v := hval0
  have hW' := hW
  obtain ⟨p, q, hA0, -, -, -, -⟩ := hW
  have hA : DataW.TrodAll enc Tryz.prog W 0 (fun _ => true) true Tryz.f12.params.toList args.toList ds p := hA0
  rw [Tryz.params12] at hA hval
  obtain ⟨v0, vs0, d0, ds0, p0, q0, hargs, rfl, -, h0, r0⟩ := trodAll_cons hA
  obtain ⟨v1, vs1, d1, ds1, p1, q1, rfl, rfl, -, h1, r1⟩ := trodAll_cons r0
  obtain ⟨rfl, rfl, -⟩ := trodAll_nil r1
  obtain rfl : args = #[v0, v1] := by cases args; simp_all
  obtain ⟨b0, c0, z0, rfl, i0, g0, m0⟩ := open_sl Tryz.underlying94 Tryz.underlying5 (by kernel_rfl) (hval 0 94 v0 rfl rfl) h0 (fun _ => rfl)
  obtain ⟨b1, c1, l1, s1, rfl, i1, m1⟩ := open_sb Tryz.underlying95 Tryz.underlying4 (by kernel_rfl) (hval 1 95 v1 rfl rfl) h1 (fun _ => rfl)
  refine (law_calls (args := [.slice b0 z0.length c0, .slice b1 l1 c1]) (law12 W.heap b0 c0 z0 i0 g0 m0 b1 c1 l1 s1 i1 m1)).mono fun e W' ⟨he, hg, hf⟩ => ?_
  subst he
  exact ⟨_, rfl, post_law laid readable rfl Tryz.underlying4 rfl hW' rfl hg hf⟩

theorem both {a b : Bool} (x : a = true) (y : b = true) : (a && b) = true := by rw [x, y]; rfl
theorem j0 : (Rows.engineStandsRow.wf (OpenSpec.ofChange Rows.engineStandsSpec)) = true := by kernel_rfl
theorem j1 : (laidOutB Tryz.prog) = true := by kernel_rfl
theorem j2 : (mapsRowed Tryz.prog) = true := by kernel_rfl
theorem j3 : (Tryz.f12.params.all (Tryz.prog.readableRec ·)) = true := by kernel_rfl
theorem j4 : (namedTie Tryz.prog Rows.engineStandsRow.named Rows.engineStandsSpec.vars) = true := by kernel_rfl
theorem j5 : ((Rows.engineStandsRow.stops == [])) = true := by kernel_rfl
theorem j6 : ((Tryz.prog.stops == [])) = true := by kernel_rfl
theorem j7 : ((Rows.engineStandsRow.knobs == [])) = true := by kernel_rfl
theorem j8 : ((Tryz.prog.stopKnobs == [])) = true := by kernel_rfl
theorem j9 : ((Rows.engineStandsRow.inPlace == Tryz.prog.inPlace 12)) = true := by kernel_rfl
theorem j10 : ((Rows.engineStandsRow.unfollowed == Tryz.prog.unfollowed 12)) = true := by kernel_rfl
theorem j11 : ((Rows.engineStandsRow.recurses == Tryz.prog.recurses 12)) = true := by kernel_rfl
theorem j12 : ((Rows.engineStandsRow.named == Tryz.prog.varsNamed 12)) = true := by kernel_rfl
theorem j13 : ((Rows.engineStandsRow.maps == (Tryz.f12.params.toList ++ Rows.engineStandsSpec.plain.varTypes Tryz.prog).any (Tryz.prog.mapsRec ·))) = true := by kernel_rfl
theorem j14 : ((Rows.engineStandsRow.ifaces == (Tryz.f12.params.toList ++ Rows.engineStandsSpec.plain.varTypes Tryz.prog).any (Tryz.prog.ifacesRec ·))) = true := by kernel_rfl
theorem j15 : ((Rows.engineStandsRow.mapsOut == Tryz.prog.mapsAmong Tryz.f12.resultTypes.toList)) = true := by kernel_rfl
theorem j16 : ((Rows.engineStandsRow.loops == (Tryz.f12.params.toList ++ Rows.engineStandsSpec.plain.varTypes Tryz.prog).any (Tryz.prog.loopsFrom ·))) = true := by kernel_rfl
theorem j17 : ((Rows.engineStandsRow.wideKeys == (Tryz.f12.params.toList ++ Rows.engineStandsSpec.plain.varTypes Tryz.prog ++ Tryz.f12.resultTypes.toList).any (Tryz.prog.wideKeysFrom ·))) = true := by kernel_rfl
theorem j18 : (Rows.engineStandsSpec.vars.all (Tryz.prog.varReadable ·)) = true := by kernel_rfl
theorem j19 : (Tryz.f12.resultTypes.all (fun t => Tryz.prog.readableRec t && decide (t < Tryz.prog.types.size))) = true := by kernel_rfl
theorem j20 : ((Rows.engineStandsRow.ifacesOut == Tryz.f12.resultTypes.toList.any (Tryz.prog.ifacesRec ·))) = true := by kernel_rfl
theorem j21 : ((Rows.engineStandsRow.loopsOut == Tryz.f12.resultTypes.toList.any (Tryz.prog.loopsFrom ·))) = true := by kernel_rfl
theorem j22 : ((Rows.engineStandsRow.plainKeys == Tryz.prog.plainKeys)) = true := by kernel_rfl
theorem j23 : (Rows.engineStandsRow.shortTexts.isNone) = true := by kernel_rfl
theorem j24 : (Tryz.prog.stopsHeard) = true := by kernel_rfl
theorem j25 : (Tryz.prog.mayEnter) = true := by kernel_rfl
theorem j26 : ((Rows.engineStandsRow.lifted == Tryz.prog.liftsFinal)) = true := by kernel_rfl
theorem j27 : ((Tryz.prog.make == some Rows.engineStandsRow.make)) = true := by kernel_rfl
theorem j29 : ((Rows.engineStandsRow.pinned == Rows.engineStandsRow.pinnedBy)) = true := by kernel_rfl
theorem j30 : ((Rows.engineStandsRow.veiled == (Tryz.f12.params.toList ++ Rows.engineStandsSpec.plain.varTypes Tryz.prog ++ Tryz.f12.resultTypes.toList).any (Tryz.prog.veiledRec ·))) = true := by kernel_rfl
theorem j31 : (Rows.engineStandsRow.veiledFits Tryz.prog Tryz.f12.params.toList (Tryz.f12.params.toList ++ Rows.engineStandsSpec.plain.varTypes Tryz.prog ++ Tryz.f12.resultTypes.toList)) = true := by kernel_rfl
theorem joined : joinedFacts Tryz.prog 12 Tryz.f12 Rows.engineStandsSpec Rows.engineStandsRow = true := by
  unfold joinedFacts
  exact (both (both (both (both (both (both (both (both (both (both (both (both (both (both (both (both (both (both (both (both (both (both (both (both (both (both (both (both (both (both (both j0 j1) j2) j3) j4) j5) j6) j7) j8) j9) j10) j11) j12) j13) j14) j15) j16) j17) j18) j19) j20) j21) j22) j23) j24) j25) j26) j27) (by kernel_rfl)) j29) j30) j31)
theorem named : Tryz.prog.funcNamed Rows.engineStandsRow.func = some 12 := by kernel_rfl
theorem inst : Tryz.f12.isInstance Tryz.prog Rows.engineStandsRow.origin Rows.engineStandsRow.targs := of_decide_eq_true (by kernel_rfl)
theorem wrap : Tryz.f12.isWrapper Tryz.prog Rows.engineStandsRow.wrapper Rows.engineStandsRow.mainSum := by
  unfold Func.isWrapper; first | (rw [if_pos (by decide +kernel)]; kernel_rfl) | (rw [if_neg (by decide +kernel)]; exact ⟨rfl, rfl⟩)
theorem proved : Rows.EngineStandsSaid :=
  OpenClaim.holds_of_wide 12 Tryz.f12 rfl rfl rfl rfl rfl rfl rfl ⟨rfl, rfl, rfl, rfl, rfl⟩ rfl rfl rfl rfl rfl named Tryz.func12 joined inst wrap
    (fun os started H enc _ => lifted os started H enc)
end Go.Proofs.YtnofenejoebkhaaGreat.engineStands
