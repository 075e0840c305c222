/- The walk of known, of the statements about closing: one octagon closed. -/
import Derived.Test.YtkgddgckilledaaCos
import Derived.Test.YtkgddgckilledaaDbk
namespace Go.Proofs.Ytkgddgckilledaa
open Go.RowKit
set_option linter.unusedVariables false
set_option linter.unusedSimpArgs false
open Gn
theorem ref_BoundB (n : Nat) (g c : Nat) (M : List Int) (i j : Nat) (b : Int) (w : World) (base : Nat) (hn : n ≤ 64) (hM : M.length = (2 * n) * (2 * n)) (ho : Ow w base 2 .i64 (some ⟨g, 0, none⟩) c M) (hi : i < 2 * n) (hj : j < 2 * n) (hij : i ≠ j) (hb : base ≤ w.heap.size) :
    Calls Try.prog 51 #[.agg #[.int .i64 n, .bool false, .slice (some ⟨g, 0, none⟩) M.length c], .int .i64 i, .int .i64 j, .int .i64 b] w fun e w' =>
      e = .returned (.agg #[.int .i64 n, .bool false, .slice (some ⟨g, 0, none⟩) M.length c]) ∧ Ow w' base 2 .i64 (some ⟨g, 0, none⟩) c (boundM (2 * n) M i j b) ∧ Below base w w' := by
  refine (ref_Bound n g c M i j b w base hn hM ho hi hj hij).mono ?_
  rintro e w' ⟨rfl, ho', hG⟩
  exact ⟨rfl, ho', only_back hG hb ho.blockGe.1⟩
namespace Gn
def knM : List Int := [0, 9223372036854775807, 1, 9223372036854775807, 9223372036854775807, 0, 9223372036854775807, 9223372036854775807, 9223372036854775807, 9223372036854775807, 0, 4, 9223372036854775807, 1, 9223372036854775807, 0]
def knC : List Int := [0, 6, 1, 5, 9223372036854775807, 0, 9223372036854775807, 9223372036854775807, 9223372036854775807, 5, 0, 4, 9223372036854775807, 1, 9223372036854775807, 0]
theorem kn_bound : boundM 4 (boundM 4 (topM 4) 0 2 1) 2 3 4 = knM := by decide +kernel
theorem kn_close : closeP 2 false knM = (((2, false, knC), false), 0) := by decide +kernel
theorem kn_len : knC.length = 16 := rfl
theorem kn_1 : nth knC 1 = 6 := rfl
theorem kn_3 : nth knC 3 = 5 := rfl
theorem kn_i : ∀ v ∈ knM, I64 v := by decide +kernel
theorem kn_m : knM.length = 16 := rfl
end Gn
end Go.Proofs.Ytkgddgckilledaa
