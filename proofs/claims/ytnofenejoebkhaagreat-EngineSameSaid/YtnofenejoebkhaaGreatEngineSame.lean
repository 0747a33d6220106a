/- EngineSame: for every input the call returns true, and each argument reads behind the call as it read before it. Conditions: none. -/
import Derived.Test.YtnofenejoebkhaaGreatRows
import Derived.Test.YtnofenejoebkhaaGreatG7
namespace Go.Proofs.YtnofenejoebkhaaGreat.engineSame
open Go.ChangeShapes Go.WideShapes Go.ChangeAt Go.RowKit Go.Proofs.YtnofenejoebkhaaGreat.Ev

theorem own : ownKnob Tryz.prog.godebug = none := by kernel_rfl
theorem laid : laidOutB Tryz.prog = true := by kernel_rfl
theorem readable : Tryz.f8.params.toList.all (fun t => Tryz.prog.readableRec t && decide (t < Tryz.prog.types.size)) = true := by kernel_rfl
set_option maxRecDepth 100000 in
theorem lifted (os : Os) (started : os.Started) (H : Type) (enc : TypeId × Value → H) :
    ReturnsInHanded {} Tryz.checked os 8 .any (Rows.engineSameSpec.pre6 enc Tryz.prog Tryz.f8 Rows.engineSameRow.domain false) (Rows.engineSameSpec.post enc Tryz.prog Tryz.f8 false true false false) := by
  refine returnsInHanded_of_change (C := Tryz.checked) own started (by kernel_rfl) Tryz.func8
    (ChangeSpec.witness6 (enc := enc) (C := Tryz.checked) false ⟨#[], #[.slice none 0 0, .slice none 0 0, .int .u8 0], []⟩ 8 (by kernel_rfl) (by kernel_rfl) (by kernel_rfl) (by kernel_rfl)) ?_
  intro W base args ds gs before hval0 hW _ _
  have hval : ∀ (j : Nat) t v, Tryz.f8.params[j]? = some t → args[j]? = some v → Value.okWide Tryz.prog W .any base t v := hval0
  have hW' := hW
  obtain ⟨p, q, hA0, -, -, -, -⟩ := hW
  have hA : DataW.TrodAll enc Tryz.prog W 0 (fun _ => true) true Tryz.f8.params.toList args.toList ds p := hA0
  rw [Tryz.params8] at hA hval
  obtain ⟨v0, vs0, d0, ds0, p0, q0, hargs, rfl, -, h0, r0⟩ := trodAll_cons hA
  obtain ⟨v1, vs1, d1, ds1, p1, q1, rfl, rfl, -, h1, r1⟩ := trodAll_cons r0
  obtain ⟨v2, vs2, d2, ds2, p2, q2, rfl, rfl, -, h2, r2⟩ := trodAll_cons r1
  obtain ⟨rfl, rfl, -⟩ := trodAll_nil r2
  obtain rfl : args = #[v0, v1, v2] := by cases args; simp_all
  obtain ⟨b0, c0, z0, rfl, i0, g0, m0⟩ := open_sl Tryz.underlying94 Tryz.underlying5 (by kernel_rfl) (hval 0 94 v0 rfl rfl) h0 (fun _ => rfl)
  obtain ⟨b1, c1, l1, s1, rfl, i1, m1⟩ := open_sb Tryz.underlying95 Tryz.underlying4 (by kernel_rfl) (hval 1 95 v1 rfl rfl) h1 (fun _ => rfl)
  obtain ⟨a2, rfl, rfl, -, w2⟩ := open_int Tryz.underlying5 (hval 2 5 v2 rfl rfl) h2
  refine (law_calls (args := [.slice b0 z0.length c0, .slice b1 l1 c1, .int .u8 a2]) (law8 W.heap b0 c0 z0 i0 g0 m0 b1 c1 l1 s1 i1 m1 a2 (wf_range w2))).mono fun e W' ⟨he, hg, hf⟩ => ?_
  subst he
  exact ⟨_, rfl, post_law laid readable rfl Tryz.underlying4 rfl hW' rfl hg hf⟩

theorem both {a b : Bool} (x : a = true) (y : b = true) : (a && b) = true := by rw [x, y]; rfl
theorem j0 : (Rows.engineSameRow.wf (OpenSpec.ofChange Rows.engineSameSpec)) = true := by kernel_rfl
theorem j1 : (laidOutB Tryz.prog) = true := by kernel_rfl
theorem j2 : (mapsRowed Tryz.prog) = true := by kernel_rfl
theorem j3 : (Tryz.f8.params.all (Tryz.prog.readableRec ·)) = true := by kernel_rfl
theorem j4 : (namedTie Tryz.prog Rows.engineSameRow.named Rows.engineSameSpec.vars) = true := by kernel_rfl
theorem j5 : ((Rows.engineSameRow.stops == [])) = true := by kernel_rfl
theorem j6 : ((Tryz.prog.stops == [])) = true := by kernel_rfl
theorem j7 : ((Rows.engineSameRow.knobs == [])) = true := by kernel_rfl
theorem j8 : ((Tryz.prog.stopKnobs == [])) = true := by kernel_rfl
theorem j9 : ((Rows.engineSameRow.inPlace == Tryz.prog.inPlace 8)) = true := by kernel_rfl
theorem j10 : ((Rows.engineSameRow.unfollowed == Tryz.prog.unfollowed 8)) = true := by kernel_rfl
theorem j11 : ((Rows.engineSameRow.recurses == Tryz.prog.recurses 8)) = true := by kernel_rfl
theorem j12 : ((Rows.engineSameRow.named == Tryz.prog.varsNamed 8)) = true := by kernel_rfl
theorem j13 : ((Rows.engineSameRow.maps == (Tryz.f8.params.toList ++ Rows.engineSameSpec.plain.varTypes Tryz.prog).any (Tryz.prog.mapsRec ·))) = true := by kernel_rfl
theorem j14 : ((Rows.engineSameRow.ifaces == (Tryz.f8.params.toList ++ Rows.engineSameSpec.plain.varTypes Tryz.prog).any (Tryz.prog.ifacesRec ·))) = true := by kernel_rfl
theorem j15 : ((Rows.engineSameRow.mapsOut == Tryz.prog.mapsAmong Tryz.f8.resultTypes.toList)) = true := by kernel_rfl
theorem j16 : ((Rows.engineSameRow.loops == (Tryz.f8.params.toList ++ Rows.engineSameSpec.plain.varTypes Tryz.prog).any (Tryz.prog.loopsFrom ·))) = true := by kernel_rfl
theorem j17 : ((Rows.engineSameRow.wideKeys == (Tryz.f8.params.toList ++ Rows.engineSameSpec.plain.varTypes Tryz.prog ++ Tryz.f8.resultTypes.toList).any (Tryz.prog.wideKeysFrom ·))) = true := by kernel_rfl
theorem j18 : (Rows.engineSameSpec.vars.all (Tryz.prog.varReadable ·)) = true := by kernel_rfl
theorem j19 : (Tryz.f8.resultTypes.all (fun t => Tryz.prog.readableRec t && decide (t < Tryz.prog.types.size))) = true := by kernel_rfl
theorem j20 : ((Rows.engineSameRow.ifacesOut == Tryz.f8.resultTypes.toList.any (Tryz.prog.ifacesRec ·))) = true := by kernel_rfl
theorem j21 : ((Rows.engineSameRow.loopsOut == Tryz.f8.resultTypes.toList.any (Tryz.prog.loopsFrom ·))) = true := by kernel_rfl
theorem j22 : ((Rows.engineSameRow.plainKeys == Tryz.prog.plainKeys)) = true := by kernel_rfl
theorem j23 : (Rows.engineSameRow.shortTexts.isNone) = true := by kernel_rfl
theorem j24 : (Tryz.prog.stopsHeard) = true := by kernel_rfl
theorem j25 : (Tryz.prog.mayEnter) = true := by kernel_rfl
theorem j26 : ((Rows.engineSameRow.lifted == Tryz.prog.liftsFinal)) = true := by kernel_rfl
theorem j27 : ((Tryz.prog.make == some Rows.engineSameRow.make)) = true := by kernel_rfl
theorem j29 : ((Rows.engineSameRow.pinned == Rows.engineSameRow.pinnedBy)) = true := by kernel_rfl
theorem j30 : ((Rows.engineSameRow.veiled == (Tryz.f8.params.toList ++ Rows.engineSameSpec.plain.varTypes Tryz.prog ++ Tryz.f8.resultTypes.toList).any (Tryz.prog.veiledRec ·))) = true := by kernel_rfl
theorem j31 : (Rows.engineSameRow.veiledFits Tryz.prog Tryz.f8.params.toList (Tryz.f8.params.toList ++ Rows.engineSameSpec.plain.varTypes Tryz.prog ++ Tryz.f8.resultTypes.toList)) = true := by kernel_rfl
theorem joined : joinedFacts Tryz.prog 8 Tryz.f8 Rows.engineSameSpec Rows.engineSameRow = true := by
  unfold joinedFacts
  exact (both (both (both (both (both (both (both (both (both (both (both (both (both (both (both (both (both (both (both (both (both (both (both (both (both (both (both (both (both (both (both j0 j1) j2) j3) j4) j5) j6) j7) j8) j9) j10) j11) j12) j13) j14) j15) j16) j17) j18) j19) j20) j21) j22) j23) j24) j25) j26) j27) (by kernel_rfl)) j29) j30) j31)
theorem named : Tryz.prog.funcNamed Rows.engineSameRow.func = some 8 := by kernel_rfl
theorem inst : Tryz.f8.isInstance Tryz.prog Rows.engineSameRow.origin Rows.engineSameRow.targs := of_decide_eq_true (by kernel_rfl)
theorem wrap : Tryz.f8.isWrapper Tryz.prog Rows.engineSameRow.wrapper Rows.engineSameRow.mainSum := by
  unfold Func.isWrapper; first | (rw [if_pos (by decide +kernel)]; kernel_rfl) | (rw [if_neg (by decide +kernel)]; exact ⟨rfl, rfl⟩)
theorem proved : Rows.EngineSameSaid :=
  OpenClaim.holds_of_wide 8 Tryz.f8 rfl rfl rfl rfl rfl rfl rfl ⟨rfl, rfl, rfl, rfl, rfl⟩ rfl rfl rfl rfl rfl named Tryz.func8 joined inst wrap
    (fun os started H enc _ => lifted os started H enc)
end Go.Proofs.YtnofenejoebkhaaGreat.engineSame
