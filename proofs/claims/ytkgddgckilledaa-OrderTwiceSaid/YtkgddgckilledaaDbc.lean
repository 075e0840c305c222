/- Walks: an octagon written over, and the statement DbmCells. -/
import Derived.Test.YtkgddgckilledaaDbk
namespace Go.Proofs.Ytkgddgckilledaa
open Go.RowKit
set_option linter.unusedVariables false
set_option linter.unusedSimpArgs false
open Gn
theorem OctIn.keep {w w' : World} {B : Nat} {A : Option Addr} {c : Nat} {N : Int} {M : List Int} (h : OctIn w B A c N M) {B' : Nat} (hb : Below B' w w') (hB : B ≤ B') (hs : B ≤ w'.heap.size) : OctIn w' w'.heap.size A c N M :=
  (h.below (hb.mono hB)).more hs
theorem withP_fits {N : Int} {E : Bool} {M : List Int} {i j b : Int} (hN : I64 N) (hM : (M.length : Int) ≤ 17592186043904) : I64 (withP N E M i j b).1.1 ∧ ((withP N E M i j b).1.2.2.length : Int) ≤ 9223372036854775807 := by
  unfold withP
  split
  · exact ⟨by unfold I64; simp, by simp⟩
  split
  · exact ⟨by unfold I64; simp, by simp⟩
  split
  · exact ⟨hN, by simp⟩
  split
  · split
    · exact ⟨hN, by simp⟩
    · exact ⟨hN, by simp; omega⟩
  · exact ⟨hN, by simp [boundM]; omega⟩
end Go.Proofs.Ytkgddgckilledaa
