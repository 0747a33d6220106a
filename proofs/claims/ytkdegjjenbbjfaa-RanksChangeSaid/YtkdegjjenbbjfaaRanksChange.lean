/- RanksChange: for every input the call returns true, and each argument reads behind the call as it read before it. Conditions: none. -/
import Derived.Test.YtkdegjjenbbjfaaRows
import Derived.Test.YtkdegjjenbbjfaaRnkL11
namespace Go.Proofs.Ytkdegjjenbbjfaa.ranksChange
open Go.ChangeShapes Go.WideShapes Go.ChangeAt Go.RowKit Go.Proofs.Ytkdegjjenbbjfaa.Ev

theorem own : ownKnob Try.prog.godebug = none := by kernel_rfl
theorem laid : laidOutB Try.prog = true := by kernel_rfl
theorem readable : Try.f11.params.toList.all (fun t => Try.prog.readableRec t && decide (t < Try.prog.types.size)) = true := by kernel_rfl
set_option maxRecDepth 100000 in
theorem lifted (os : Os) (started : os.Started) (H : Type) (enc : TypeId × Value → H) :
    ReturnsInHanded {} Try.checked os 11 .any (Rows.ranksChangeSpec.pre6 enc Try.prog Try.f11 Rows.ranksChangeRow.domain false) (Rows.ranksChangeSpec.post enc Try.prog Try.f11 false true false false) := by
  refine returnsInHanded_of_change (C := Try.checked) own started (by kernel_rfl) Try.func11
    (ChangeSpec.witness6 (enc := enc) (C := Try.checked) false ⟨#[], #[.slice none 0 0, .int .u8 0, .int .i8 0, .int .u8 0], []⟩ 8 (by kernel_rfl) (by kernel_rfl) (by kernel_rfl) (by kernel_rfl)) ?_
  intro W base args ds gs before hval0 hW _ _
  have hval : ∀ (j : Nat) t v, Try.f11.params[j]? = some t → args[j]? = some v → Value.okWide Try.prog W .any base t v := hval0
  have hW' := hW
  obtain ⟨p, q, hA0, -, -, -, -⟩ := hW
  have hA : DataW.TrodAll enc Try.prog W 0 (fun _ => true) true Try.f11.params.toList args.toList ds p := hA0
  rw [Try.params11] at hA hval
  obtain ⟨v0, vs0, d0, ds0, p0, q0, hargs, rfl, -, h0, r0⟩ := trodAll_cons hA
  obtain ⟨v1, vs1, d1, ds1, p1, q1, rfl, rfl, -, h1, r1⟩ := trodAll_cons r0
  obtain ⟨v2, vs2, d2, ds2, p2, q2, rfl, rfl, -, h2, r2⟩ := trodAll_cons r1
  obtain ⟨v3, vs3, d3, ds3, p3, q3, rfl, rfl, -, h3, r3⟩ := trodAll_cons r2
  obtain ⟨rfl, rfl, -⟩ := trodAll_nil r3
  obtain rfl : args = #[v0, v1, v2, v3] := by cases args; simp_all
  obtain ⟨b0, c0, z0, rfl, i0, g0, m0⟩ := open_sl Try.underlying51 Try.underlying55 (by kernel_rfl) (hval 0 51 v0 rfl rfl) h0 (fun _ => rfl)
  obtain ⟨a1, rfl, rfl, -, w1⟩ := open_int Try.underlying5 (hval 1 5 v1 rfl rfl) h1
  obtain ⟨a2, rfl, rfl, -, w2⟩ := open_int Try.underlying55 (hval 2 55 v2 rfl rfl) h2
  obtain ⟨a3, rfl, rfl, -, w3⟩ := open_int Try.underlying5 (hval 3 5 v3 rfl rfl) h3
  refine (law_calls (args := [.slice b0 z0.length c0, .int .u8 a1, .int .i8 a2, .int .u8 a3]) (rchg_law W.heap b0 c0 z0 i0 g0 m0 a1 (wf_range w1) a2 (wf_range w2) a3 (wf_range w3))).mono fun e W' ⟨he, hg, hf⟩ => ?_
  subst he
  exact ⟨_, rfl, post_law laid readable rfl Try.underlying4 rfl hW' rfl hg hf⟩

theorem proved : Rows.RanksChangeSaid :=
  OpenClaim.holds_of_wide 11 Try.f11 rfl rfl rfl rfl rfl rfl rfl ⟨rfl, rfl, rfl, rfl, rfl⟩ rfl rfl rfl rfl rfl (by kernel_rfl) Try.func11 (by kernel_rfl)
    (of_decide_eq_true (by kernel_rfl)) (by unfold Func.isWrapper; first | (rw [if_pos (by decide +kernel)]; kernel_rfl) | (rw [if_neg (by decide +kernel)]; exact ⟨rfl, rfl⟩))
    (fun os started H enc _ => lifted os started H enc)
end Go.Proofs.Ytkdegjjenbbjfaa.ranksChange
