/- WHERE A KEY IS LOOKED FOR FIRST (package bits: Mix, Home), seen from the heap. Conditions: none. -/
import Derived.Test.YtbjdjgdbkfjglaaEvJ
import Derived.Test.YtbjdjgdbkfjglaaBitsF
namespace Go.Proofs.Ytbjdjgdbkfjglaa.Ev
open Go

def xsf (x : Int) : Int := bitsI .xor .u64 x (Int.fdiv x (2 ^ (min (Int.toNat (33 : Int)) (IntKind.bits .u64))))
def mixF (x : Int) : Int := xsf (IntKind.wrap .u64 (xsf (IntKind.wrap .u64 (xsf x * 18397679294719823053)) * 14181476777654086739))
theorem wrapu_range (x : Int) : 0 ≤ IntKind.wrap .u64 x ∧ IntKind.wrap .u64 x < 18446744073709551616 := by
  rw [wrap_u64']; omega
theorem xsf_range (x : Int) : 0 ≤ xsf x ∧ xsf x < 18446744073709551616 := wrapu_range _
theorem mix_spec {h : Heap} {x : Int} {K : Value → Heap → Prop} (hK : K (.int .u64 (mixF x)) h) : CallsH Try.prog 50 [.int .u64 x] h K := by
  apply F50.spec
  unfold F50.w F50.J0 F50.wk2 F50.Jk2
  refine ⟨3, ?_⟩
  unfold F50.wL2 F50.JL2
  rw [show decide ((0 : Int) < 2) = true from rfl, bcase_true]
  refine ⟨by decide, by decide, ldI_of rfl ⟨by decide, ?_⟩⟩
  unfold F50.wL2 F50.JL2
  dsimp only
  rw [show IntKind.wrap .i64 ((0 : Int) + 1) = 1 from rfl, show decide ((1 : Int) < 2) = true from rfl, bcase_true]
  refine ⟨by decide, by decide, ldI_of rfl ⟨by decide, ?_⟩⟩
  unfold F50.wL2 F50.JL2
  dsimp only
  rw [show IntKind.wrap .i64 ((1 : Int) + 1) = 2 from rfl, show decide ((2 : Int) < 2) = false from rfl, bcase_false]
  exact ⟨by decide, hK⟩
def home (key : Int) (n : Nat) : Nat := ((mixF key).tmod n).toNat
theorem home_lt (key : Int) {n : Nat} (hn : 1 ≤ n) : home key n < n := by
  unfold home
  have h0 : 0 ≤ mixF key := (xsf_range _).1
  rw [Int.tmod_eq_emod_of_nonneg h0]
  have := Int.emod_lt_of_pos (mixF key) (by omega : (0 : Int) < n)
  have := Int.emod_nonneg (mixF key) (by omega : (n : Int) ≠ 0)
  omega
theorem home_spec {h : Heap} {x : Int} {n : Nat} {K : Value → Heap → Prop} (h1 : 1 ≤ n) (h2 : n < 1000000000) (hK : K (.int .i64 (home x n : Int)) h) : CallsH Try.prog 40 [.int .u64 x, .int .i64 (n : Int)] h K := by
  apply F40.spec
  unfold F40.w F40.J0
  rw [decide_eq_false (by omega), bcase_false]
  refine mix_spec (ldI_of rfl ?_)
  rw [wrap_u64 (n := (n : Int)) (by omega) (by omega)]
  have h0 : 0 ≤ mixF x := (xsf_range _).1
  have e : (mixF x).tmod n = (home x n : Int) := by
    unfold home
    rw [Int.tmod_eq_emod_of_nonneg h0]
    have := Int.emod_nonneg (mixF x) (by omega : (n : Int) ≠ 0)
    omega
  have := home_lt x h1
  rw [e, wrap_i64 (by omega) (by omega)]
  exact ⟨by omega, hK⟩

end Go.Proofs.Ytbjdjgdbkfjglaa.Ev
