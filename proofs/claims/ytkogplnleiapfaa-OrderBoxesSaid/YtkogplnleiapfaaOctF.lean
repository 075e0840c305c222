/- The walk of With, of the package dbm. -/
import Derived.Test.YtkogplnleiapfaaOctD
namespace Go.Proofs.Ytkogplnleiapfaa
open Go.RowKit
set_option linter.unusedVariables false
set_option linter.unusedSimpArgs false
open Gn
namespace Gn
/-- One step of With: a cell bounded. -/
def stepM (M : List Int) (p : Nat) (c : Int) : List Int := M.set p (less (nth M p) c)
theorem stepM_two {n : Nat} {M : List Int} {i j : Nat} {c : Int} (hl : M.length = (2 * n) * (2 * n)) (hok : okM (2 * n) M) (hi : i < 2 * n) (hj : j < 2 * n) :
    stepM (stepM M (i * (2 * n) + j) c) (ac j * (2 * n) + ac i) c = boundM (2 * n) M i j c := by
  have h1 := hok i hi j hj
  have hb := asB_of ((isB_iff _).1 h1.1)
  have hai := ac_lt hi
  have haj := ac_lt hj
  have hp := idx_lt hi hj
  have hp' := idx_lt haj hai
  have e1 : less (nth M (i * (2 * n) + j)) c = min (cl (2 * n) M i j) (asB c) := by
    unfold less
    rw [show nth M (i * (2 * n) + j) = cl (2 * n) M i j from rfl, hb]
  have hcb := asB_bd c
  have e2 : less (nth (stepM M (i * (2 * n) + j) c) (ac j * (2 * n) + ac i)) c = min (cl (2 * n) M i j) (asB c) := by
    by_cases h : i * (2 * n) + j = ac j * (2 * n) + ac i
    · unfold stepM
      rw [← h, nth_set_same (by omega), e1]
      unfold less
      rw [asB_of (show Bd (min (cl (2 * n) M i j) (asB c)) by
        have := (isB_iff _).1 h1.1
        unfold Bd at *; omega)]
      omega
    · unfold stepM
      rw [nth_set_ne h]
      have : nth M (ac j * (2 * n) + ac i) = cl (2 * n) M i j := h1.2.2.symm
      rw [this]
      unfold less
      rw [hb]
  unfold boundM
  rw [← e1] at e2 ⊢
  show (stepM M (i * (2 * n) + j) c).set _ _ = _
  rw [e2]
  rfl
theorem stepM_len (M : List Int) (p : Nat) (c : Int) : (stepM M p c).length = M.length := by simp [stepM]
end Gn
end Go.Proofs.Ytkogplnleiapfaa
