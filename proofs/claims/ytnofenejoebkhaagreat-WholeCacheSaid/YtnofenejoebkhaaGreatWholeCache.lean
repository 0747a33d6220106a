/- WholeCache: for every input the call returns true, and each argument reads behind the call as it read before it. Conditions: none. -/
import Derived.Test.YtnofenejoebkhaaGreatRows
import Derived.Test.YtnofenejoebkhaaGreatG7
namespace Go.Proofs.YtnofenejoebkhaaGreat.wholeCache
open Go.ChangeShapes Go.WideShapes Go.ChangeAt Go.RowKit Go.Proofs.YtnofenejoebkhaaGreat.Ev

theorem own : ownKnob Tryz.prog.godebug = none := by kernel_rfl
theorem laid : laidOutB Tryz.prog = true := by kernel_rfl
theorem readable : Tryz.f15.params.toList.all (fun t => Tryz.prog.readableRec t && decide (t < Tryz.prog.types.size)) = true := by kernel_rfl
set_option maxRecDepth 100000 in
theorem lifted (os : Os) (started : os.Started) (H : Type) (enc : TypeId × Value → H) :
    ReturnsInHanded {} Tryz.checked os 15 .any (Rows.wholeCacheSpec.pre6 enc Tryz.prog Tryz.f15 Rows.wholeCacheRow.domain false) (Rows.wholeCacheSpec.post enc Tryz.prog Tryz.f15 false true false false) := by
  refine returnsInHanded_of_change (C := Tryz.checked) own started (by kernel_rfl) Tryz.func15
    (ChangeSpec.witness6 (enc := enc) (C := Tryz.checked) false ⟨#[], #[.agg #[.int .u64 0, .int .u64 0, .int .u64 0, .int .u64 0], .agg #[.int .u64 0, .int .u64 0, .int .u64 0, .int .u64 0], .agg #[.int .u64 0, .int .u64 0, .int .u64 0, .int .u64 0], .slice none 0 0], []⟩ 8 (by kernel_rfl) (by kernel_rfl) (by kernel_rfl) (by kernel_rfl)) ?_
  intro W base args ds gs before hval0 hW _ _
  have hval : ∀ (j : Nat) t v, Tryz.f15.params[j]? = some t → args[j]? = some v → Value.okWide Tryz.prog W .any base t v := hval0
  have hW' := hW
  obtain ⟨p, q, hA0, -, -, -, -⟩ := hW
  have hA : DataW.TrodAll enc Tryz.prog W 0 (fun _ => true) true Tryz.f15.params.toList args.toList ds p := hA0
  rw [Tryz.params15] at hA hval
  obtain ⟨v0, vs0, d0, ds0, p0, q0, hargs, rfl, -, h0, r0⟩ := trodAll_cons hA
  obtain ⟨v1, vs1, d1, ds1, p1, q1, rfl, rfl, -, h1, r1⟩ := trodAll_cons r0
  obtain ⟨v2, vs2, d2, ds2, p2, q2, rfl, rfl, -, h2, r2⟩ := trodAll_cons r1
  obtain ⟨v3, vs3, d3, ds3, p3, q3, rfl, rfl, -, h3, r3⟩ := trodAll_cons r2
  obtain ⟨rfl, rfl, -⟩ := trodAll_nil r3
  obtain rfl : args = #[v0, v1, v2, v3] := by cases args; simp_all
  obtain ⟨z0, l0, rfl, g0⟩ := open_arr Tryz.underlying51 Tryz.underlying49 (by kernel_rfl) (by kernel_rfl) (hval 0 51 v0 rfl rfl) h0
  obtain ⟨z1, l1, rfl, g1⟩ := open_arr Tryz.underlying51 Tryz.underlying49 (by kernel_rfl) (by kernel_rfl) (hval 1 51 v1 rfl rfl) h1
  obtain ⟨z2, l2, rfl, g2⟩ := open_arr Tryz.underlying51 Tryz.underlying49 (by kernel_rfl) (by kernel_rfl) (hval 2 51 v2 rfl rfl) h2
  obtain ⟨b3, c3, l3, s3, rfl, i3, m3, g3⟩ := open_ss Tryz.underlying112 Tryz.underlying66 (N := 5) (by kernel_rfl) (hval 3 112 v3 rfl rfl) h3 (fun _ => rfl)
  refine (law_calls (args := [.agg (z0.map (Value.int .u64)).toArray, .agg (z1.map (Value.int .u64)).toArray, .agg (z2.map (Value.int .u64)).toArray, .slice b3 l3 c3]) (law15 W.heap z0 l0 g0 z1 l1 g1 z2 l2 g2 b3 c3 l3 s3 i3 m3 (fun j hj => (g3 j hj 0 _ rfl (by kernel_rfl) (by decide)).1 _ Tryz.underlying3) (fun j hj => (g3 j hj 1 _ rfl (by kernel_rfl) (by decide)).1 _ Tryz.underlying46) (fun j hj => (g3 j hj 2 _ rfl (by kernel_rfl) (by decide)).1 _ Tryz.underlying46) (fun j hj => (g3 j hj 3 _ rfl (by kernel_rfl) (by decide)).1 _ Tryz.underlying46) (fun j hj => (g3 j hj 4 _ rfl (by kernel_rfl) (by decide)).1 _ Tryz.underlying5))).mono fun e W' ⟨he, hg, hf⟩ => ?_
  subst he
  exact ⟨_, rfl, post_law laid readable rfl Tryz.underlying4 rfl hW' rfl hg hf⟩

theorem both {a b : Bool} (x : a = true) (y : b = true) : (a && b) = true := by rw [x, y]; rfl
theorem j0 : (Rows.wholeCacheRow.wf (OpenSpec.ofChange Rows.wholeCacheSpec)) = true := by kernel_rfl
theorem j1 : (laidOutB Tryz.prog) = true := by kernel_rfl
theorem j2 : (mapsRowed Tryz.prog) = true := by kernel_rfl
theorem j3 : (Tryz.f15.params.all (Tryz.prog.readableRec ·)) = true := by kernel_rfl
theorem j4 : (namedTie Tryz.prog Rows.wholeCacheRow.named Rows.wholeCacheSpec.vars) = true := by kernel_rfl
theorem j5 : ((Rows.wholeCacheRow.stops == [])) = true := by kernel_rfl
theorem j6 : ((Tryz.prog.stops == [])) = true := by kernel_rfl
theorem j7 : ((Rows.wholeCacheRow.knobs == [])) = true := by kernel_rfl
theorem j8 : ((Tryz.prog.stopKnobs == [])) = true := by kernel_rfl
theorem j9 : ((Rows.wholeCacheRow.inPlace == Tryz.prog.inPlace 15)) = true := by kernel_rfl
theorem j10 : ((Rows.wholeCacheRow.unfollowed == Tryz.prog.unfollowed 15)) = true := by kernel_rfl
theorem j11 : ((Rows.wholeCacheRow.recurses == Tryz.prog.recurses 15)) = true := by kernel_rfl
theorem j12 : ((Rows.wholeCacheRow.named == Tryz.prog.varsNamed 15)) = true := by kernel_rfl
theorem j13 : ((Rows.wholeCacheRow.maps == (Tryz.f15.params.toList ++ Rows.wholeCacheSpec.plain.varTypes Tryz.prog).any (Tryz.prog.mapsRec ·))) = true := by kernel_rfl
theorem j14 : ((Rows.wholeCacheRow.ifaces == (Tryz.f15.params.toList ++ Rows.wholeCacheSpec.plain.varTypes Tryz.prog).any (Tryz.prog.ifacesRec ·))) = true := by kernel_rfl
theorem j15 : ((Rows.wholeCacheRow.mapsOut == Tryz.prog.mapsAmong Tryz.f15.resultTypes.toList)) = true := by kernel_rfl
theorem j16 : ((Rows.wholeCacheRow.loops == (Tryz.f15.params.toList ++ Rows.wholeCacheSpec.plain.varTypes Tryz.prog).any (Tryz.prog.loopsFrom ·))) = true := by kernel_rfl
theorem j17 : ((Rows.wholeCacheRow.wideKeys == (Tryz.f15.params.toList ++ Rows.wholeCacheSpec.plain.varTypes Tryz.prog ++ Tryz.f15.resultTypes.toList).any (Tryz.prog.wideKeysFrom ·))) = true := by kernel_rfl
theorem j18 : (Rows.wholeCacheSpec.vars.all (Tryz.prog.varReadable ·)) = true := by kernel_rfl
theorem j19 : (Tryz.f15.resultTypes.all (fun t => Tryz.prog.readableRec t && decide (t < Tryz.prog.types.size))) = true := by kernel_rfl
theorem j20 : ((Rows.wholeCacheRow.ifacesOut == Tryz.f15.resultTypes.toList.any (Tryz.prog.ifacesRec ·))) = true := by kernel_rfl
theorem j21 : ((Rows.wholeCacheRow.loopsOut == Tryz.f15.resultTypes.toList.any (Tryz.prog.loopsFrom ·))) = true := by kernel_rfl
theorem j22 : ((Rows.wholeCacheRow.plainKeys == Tryz.prog.plainKeys)) = true := by kernel_rfl
theorem j23 : (Rows.wholeCacheRow.shortTexts.isNone) = true := by kernel_rfl
theorem j24 : (Tryz.prog.stopsHeard) = true := by kernel_rfl
theorem j25 : (Tryz.prog.mayEnter) = true := by kernel_rfl
theorem j26 : ((Rows.wholeCacheRow.lifted == Tryz.prog.liftsFinal)) = true := by kernel_rfl
theorem j27 : ((Tryz.prog.make == some Rows.wholeCacheRow.make)) = true := by kernel_rfl
theorem j29 : ((Rows.wholeCacheRow.pinned == Rows.wholeCacheRow.pinnedBy)) = true := by kernel_rfl
theorem j30 : ((Rows.wholeCacheRow.veiled == (Tryz.f15.params.toList ++ Rows.wholeCacheSpec.plain.varTypes Tryz.prog ++ Tryz.f15.resultTypes.toList).any (Tryz.prog.veiledRec ·))) = true := by kernel_rfl
theorem j31 : (Rows.wholeCacheRow.veiledFits Tryz.prog Tryz.f15.params.toList (Tryz.f15.params.toList ++ Rows.wholeCacheSpec.plain.varTypes Tryz.prog ++ Tryz.f15.resultTypes.toList)) = true := by kernel_rfl
theorem joined : joinedFacts Tryz.prog 15 Tryz.f15 Rows.wholeCacheSpec Rows.wholeCacheRow = true := by
  unfold joinedFacts
  exact (both (both (both (both (both (both (both (both (both (both (both (both (both (both (both (both (both (both (both (both (both (both (both (both (both (both (both (both (both (both (both j0 j1) j2) j3) j4) j5) j6) j7) j8) j9) j10) j11) j12) j13) j14) j15) j16) j17) j18) j19) j20) j21) j22) j23) j24) j25) j26) j27) (by kernel_rfl)) j29) j30) j31)
theorem named : Tryz.prog.funcNamed Rows.wholeCacheRow.func = some 15 := by kernel_rfl
theorem inst : Tryz.f15.isInstance Tryz.prog Rows.wholeCacheRow.origin Rows.wholeCacheRow.targs := of_decide_eq_true (by kernel_rfl)
theorem wrap : Tryz.f15.isWrapper Tryz.prog Rows.wholeCacheRow.wrapper Rows.wholeCacheRow.mainSum := by
  unfold Func.isWrapper; first | (rw [if_pos (by decide +kernel)]; kernel_rfl) | (rw [if_neg (by decide +kernel)]; exact ⟨rfl, rfl⟩)
theorem proved : Rows.WholeCacheSaid :=
  OpenClaim.holds_of_wide 15 Tryz.f15 rfl rfl rfl rfl rfl rfl rfl ⟨rfl, rfl, rfl, rfl, rfl⟩ rfl rfl rfl rfl rfl named Tryz.func15 joined inst wrap
    (fun os started H enc _ => lifted os started H enc)
end Go.Proofs.YtnofenejoebkhaaGreat.wholeCache
