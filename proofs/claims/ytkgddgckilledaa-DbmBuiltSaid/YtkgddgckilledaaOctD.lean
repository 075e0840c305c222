/- Walks: With, of the packages dbm and gnomonref12. -/
import Derived.Test.YtkgddgckilledaaOctB
namespace Go.Proofs.Ytkgddgckilledaa
open Go.RowKit
set_option linter.unusedVariables false
set_option linter.unusedSimpArgs false
namespace Gn
/-- What With tells: the octagon's fields, the error. -/
def withP (N : Int) (E : Bool) (M : List Int) (i j c : Int) : (Int × Bool × List Int) × Int :=
  if chk N E M ≠ 0 then ((0, false, []), chk N E M)
  else if inM N.toNat i j = false then ((0, false, []), 122)
  else if E = true then ((N, true, []), 0)
  else if i = j then (if c < 0 then ((N, true, []), 0) else ((N, false, M), 0))
  else ((N, false, boundM (2 * N.toNat) M i.toNat j.toNat c), 0)
variable {N : Int} {n : Nat} {E : Bool} {M : List Int} {i j c : Int} {a b : Nat}
theorem withP_bad (h : chk N E M ≠ 0) : withP N E M i j c = ((0, false, []), chk N E M) := by unfold withP; rw [if_pos h]
theorem withP_out (h : chk n E M = 0) (h' : inM n i j = false) : withP n E M i j c = ((0, false, []), 122) := by
  unfold withP; rw [if_neg (by omega), if_pos (by simpa using h')]
theorem withP_empty (h : chk n true M = 0) (h' : inM n i j = true) : withP n true M i j c = (((n : Int), true, []), 0) := by
  unfold withP; rw [if_neg (by omega), if_neg (by simpa using h'), if_pos rfl]
theorem withP_none (h : chk n false M = 0) (h' : inM n i i = true) (hc : c < 0) : withP n false M i i c = (((n : Int), true, []), 0) := by
  unfold withP; rw [if_neg (by omega), if_neg (by simpa using h'), if_neg (by simp), if_pos rfl, if_pos hc]
theorem withP_same (h : chk n false M = 0) (h' : inM n i i = true) (hc : ¬ c < 0) : withP n false M i i c = (((n : Int), false, M), 0) := by
  unfold withP; rw [if_neg (by omega), if_neg (by simpa using h'), if_neg (by simp), if_pos rfl, if_neg hc]
theorem withP_in (h : chk n false M = 0) (h' : inM n a b = true) (hab : a ≠ b) : withP n false M a b c = (((n : Int), false, boundM (2 * n) M a b c), 0) := by
  unfold withP; rw [if_neg (by omega), if_neg (by simpa using h'), if_neg (by simp), if_neg (by omega)]; simp
end Gn
open Gn
/-- An octagon told, of the call's own memory. -/
def TellsOct (w : World) (P : (Int × Bool × List Int) × Int) (e : Ending) (w' : World) : Prop :=
  ∃ A c, e = .returned (.tuple #[.agg #[.int .i64 P.1.1, .bool P.1.2.1, .slice A P.1.2.2.length c], .int .i64 P.2]) ∧ Ow w' w.heap.size 2 .i64 A c P.1.2.2 ∧ Below w.heap.size w w'
theorem tells {w w' : World} {P : (Int × Bool × List Int) × Int} {N : Int} {E : Bool} {M : List Int} {x : Int} {A : Option Addr} {l c : Nat} {e : Ending} (hP : P = ((N, E, M), x)) (hl : l = M.length)
    (he : e = .returned (.tuple #[.agg #[.int .i64 N, .bool E, .slice A l c], .int .i64 x])) (ho : Ow w' w.heap.size 2 .i64 A c M) (hb : Below w.heap.size w w') : TellsOct w P e w' := by
  subst hP hl he; exact ⟨A, c, rfl, ho, hb⟩
end Go.Proofs.Ytkgddgckilledaa
