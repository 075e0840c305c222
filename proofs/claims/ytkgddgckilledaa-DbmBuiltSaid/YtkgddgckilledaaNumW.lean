/- Walks: each function of the packages num and gnomonref7 answers as the plain functions of the text Num say. -/
import Derived.Test.YtkgddgckilledaaProg
import Derived.Test.YtkgddgckilledaaNum
import Derived.WalkKit
import Derived.WalkSpells
namespace Go.Proofs.Ytkgddgckilledaa
open Go.RowKit
open Gn
theorem ret1_int {k : IntKind} {x x' : Int} {w : World} (h1 : x = x') : (Ending.returned (.int k x) = .returned (.int k x')) ∧ w = w := by subst h1; exact ⟨rfl, rfl⟩
theorem ret1_bool {x x' : Bool} {w : World} (h1 : x = x') : (Ending.returned (.bool x) = .returned (.bool x')) ∧ w = w := by subst h1; exact ⟨rfl, rfl⟩
theorem ret2_int {k l : IntKind} {x y x' y' : Int} {w : World} (h1 : x = x') (h2 : y = y') : (Ending.returned (.tuple #[.int k x, .int l y]) = .returned (.tuple #[.int k x', .int l y'])) ∧ w = w := by subst h1 h2; exact ⟨rfl, rfl⟩

end Go.Proofs.Ytkgddgckilledaa
