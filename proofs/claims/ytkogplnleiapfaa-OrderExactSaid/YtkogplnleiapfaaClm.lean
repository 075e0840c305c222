/- Closing in plain words: what the whole of it makes. No program in sight. -/
import Derived.Test.YtkogplnleiapfaaCls
namespace Go.Proofs.Ytkogplnleiapfaa
open Go.RowKit
open Gn
namespace Gn
/-- What closing makes of a matrix of side m: the matrix, or none where it is empty; whether a sum saturated. -/
def closeM (m : Nat) (M : List Int) : Option (List Int) × Bool :=
  let P := paths m (M, false)
  let X := mirrors m P.1
  if loops m X then (none, P.2) else
  let Y := evens m X
  let D := sides m Y P.2
  if D.1 then (none, D.2) else
  let S := strong m (Y, D.2)
  (some S.1, S.2)
def closeP (N : Int) (E : Bool) (M : List Int) : ((Int × Bool × List Int) × Bool) × Int :=
  if chk N E M ≠ 0 then (((0, false, []), false), chk N E M)
  else if E = true then (((N, true, []), false), 0)
  else match closeM (2 * N.toNat) M with
    | (none, s) => (((N, true, []), s), 0)
    | (some X, s) => (((N, false, X), s), 0)
end Gn
namespace Gn
/-- What stands behind k of the six steps. -/
def clSt (m : Nat) (M : List Int) : Nat → MS
  | 0 => (M, false)
  | 1 => paths m (M, false)
  | 2 => (mirrors m (paths m (M, false)).1, (paths m (M, false)).2)
  | 3 => (mirrors m (paths m (M, false)).1, (paths m (M, false)).2)
  | 4 => (evens m (mirrors m (paths m (M, false)).1), (paths m (M, false)).2)
  | 5 => (evens m (mirrors m (paths m (M, false)).1), (sides m (evens m (mirrors m (paths m (M, false)).1)) (paths m (M, false)).2).2)
  | _ => strong m (evens m (mirrors m (paths m (M, false)).1), (sides m (evens m (mirrors m (paths m (M, false)).1)) (paths m (M, false)).2).2)
def clOk (m : Nat) (M : List Int) (k : Nat) : Prop :=
  (3 ≤ k → loops m (clSt m M 2).1 = false) ∧ (5 ≤ k → (sides m (clSt m M 4).1 (clSt m M 4).2).1 = false)
theorem clSt_len (m : Nat) (M : List Int) (k : Nat) : (clSt m M k).1.length = M.length := by
  have h1 : (paths m (M, false)).1.length = M.length := pK_len _ _ _
  have h2 : (mirrors m (paths m (M, false)).1).length = M.length := (mI_len _ _ _).trans h1
  have h3 : (evens m (mirrors m (paths m (M, false)).1)).length = M.length := (eI_len _ _ _).trans h2
  match k with
  | 0 => rfl
  | 1 => exact h1
  | 2 => exact h2
  | 3 => exact h2
  | 4 => exact h3
  | 5 => exact h3
  | k + 6 => exact (tI_len _ _ _).trans h3
theorem closeM_loops {m : Nat} {M : List Int} (h : loops m (clSt m M 2).1 = true) : closeM m M = (none, (clSt m M 2).2) := by
  unfold closeM
  simp only [clSt] at h ⊢
  rw [if_pos h]
theorem closeM_sides {m : Nat} {M : List Int} (h0 : clOk m M 4) (h : (sides m (clSt m M 4).1 (clSt m M 4).2).1 = true) : closeM m M = (none, (clSt m M 5).2) := by
  have h1 := h0.1 (by omega)
  unfold closeM
  simp only [clSt] at h h1 ⊢
  rw [if_neg (by rw [h1]; exact Bool.false_ne_true), if_pos h]
theorem closeM_ok {m : Nat} {M : List Int} (h : clOk m M 6) : closeM m M = (some (clSt m M 6).1, (clSt m M 6).2) := by
  have h1 := h.1 (by omega)
  have h2 := h.2 (by omega)
  unfold closeM
  simp only [clSt] at h1 h2 ⊢
  rw [if_neg (by rw [h1]; exact Bool.false_ne_true), if_neg (by rw [h2]; exact Bool.false_ne_true)]
end Gn
end Go.Proofs.Ytkogplnleiapfaa
