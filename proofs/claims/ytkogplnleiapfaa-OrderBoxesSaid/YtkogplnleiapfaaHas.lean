/- Walks: which points an octagon has, of the packages dbm and gnomonref12. -/
import Derived.Test.YtkogplnleiapfaaWid
import Derived.Test.YtkogplnleiapfaaOctE
namespace Go.Proofs.Ytkogplnleiapfaa
open Go.RowKit
set_option linter.unusedVariables false
set_option linter.unusedSimpArgs false
open Gn
theorem tdiv_two (a : Int) : ∃ q r : Int, a.tdiv 2 = q ∧ a.tmod 2 = r ∧ a = 2 * q + r ∧ (0 ≤ a → 0 ≤ r ∧ r ≤ 1 ∧ a / 2 = q ∧ a % 2 = r) ∧ (a < 0 → -1 ≤ r ∧ r ≤ 0) := by
  refine ⟨a.tdiv 2, a.tmod 2, rfl, rfl, (Int.mul_tdiv_add_tmod a 2).symm, fun h => ?_, fun h => ?_⟩
  · rw [Int.tdiv_eq_ediv_of_nonneg h, Int.tmod_eq_emod_of_nonneg h]; omega
  · have h1 := Int.neg_tmod (a := a) (b := 2)
    have h2 := Int.tmod_eq_emod_of_nonneg (a := -a) (b := 2) (by omega)
    omega
namespace Gn
/-- A number, or its negative. -/
def sg (neg : Bool) (a : Int) : Int := if neg then -a else a
def hh (v : Int) : Int := v / 2
def hl (v : Int) : Int := v % 2
theorem sg_false (a : Int) : sg false a = a := rfl
theorem sg_true (a : Int) : sg true a = -a := rfl
end Gn
namespace Gn
/-- What Diff tells of a difference. -/
def diffV (v : Int) : Int := if 4611686018427387904 < v then 0 else if v < -4611686018427387904 then 0 else v
def diffF (v : Int) : Int := if 4611686018427387904 < v then 1 else if v < -4611686018427387904 then -1 else 0
theorem diff_hi {v : Int} (h : 4611686018427387904 < v) : 0 = diffV v ∧ 1 = diffF v := by unfold diffV diffF; rw [if_pos h, if_pos h]; exact ⟨rfl, rfl⟩
theorem diff_lo {v : Int} (h : v < -4611686018427387904) : 0 = diffV v ∧ -1 = diffF v := by
  have h' : ¬ 4611686018427387904 < v := by omega
  unfold diffV diffF; rw [if_neg h', if_neg h', if_pos h, if_pos h]; exact ⟨rfl, rfl⟩
theorem diff_in {v u : Int} (h : ¬ 4611686018427387904 < v) (h' : ¬ v < -4611686018427387904) (hu : u = v) : u = diffV v ∧ 0 = diffF v := by subst hu; unfold diffV diffF; rw [if_neg h, if_neg h, if_neg h', if_neg h']; exact ⟨rfl, rfl⟩
theorem hh_hl (v : Int) : v = 2 * hh v + hl v ∧ 0 ≤ hl v ∧ hl v ≤ 1 := by unfold hh hl; omega
end Gn
theorem ret2 {k l : IntKind} {x y x' y' : Int} (h : x = x' ∧ y = y') : Ending.returned (.tuple #[.int k x, .int l y]) = .returned (.tuple #[.int k x', .int l y']) := by rw [h.1, h.2]
end Go.Proofs.Ytkogplnleiapfaa
