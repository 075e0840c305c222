/- Walks: the known values of layer 12, and the statement DbmChecks. -/
import Derived.Test.YtkogplnleiapfaaHau
import Derived.Test.YtkogplnleiapfaaOctF
import Derived.Deep.RegionHeld3
namespace Go.Proofs.Ytkogplnleiapfaa
open Go.RowKit
set_option linter.unusedVariables false
set_option linter.unusedSimpArgs false
open Gn
theorem Ow.oct {w : World} {base c : Nat} {A : Option Addr} {N : Int} {M : List Int} (h : Ow w base 2 .i64 A c M) (hN : I64 N) (hM : ∀ x ∈ M, I64 x) : OctIn w w.heap.size A c N M :=
  ⟨hN, h.rd, hM, h.cap, h.capMax⟩
theorem help_Oct_nil (N : Int) (E : Bool) (w : World) : Calls Try.prog 19 #[.agg #[.int .i64 N, .bool E, .slice none 0 0], .agg #[.int .i64 N, .bool E, .slice none 0 0]] w fun e w' => e = .returned (.bool true) ∧ Below w.heap.size w w' := by
  have cX := help_Oct N N E E none none 0 0 [] [] w Rd.zero Rd.zero (by simp) (by simp)
  rw [decide_eq_true ⟨rfl, rfl, rfl⟩] at cX
  exact cX
theorem below_go {A B C : World} (h : Below A.heap.size A B) (k : Below B.heap.size B C) : Below A.heap.size A C := h.trans (k.mono h.size)
theorem two_octs (w : World) (t : TypeId) (N N' : Int) (E E' : Bool) (v v' : Value) : ∃ W, W = (w.alloc (.cells #[.int .i64 N, .bool E, v] t)).alloc (.cells #[.int .i64 N', .bool E', v'] t) ∧
    OctAt W w.heap.size N E v ∧ OctAt W (w.heap.size + 1) N' E' v' ∧ Below w.heap.size w W ∧ W.heap.size = w.heap.size + 2 := two_boxes w t N N' E E' v v'
end Go.Proofs.Ytkogplnleiapfaa
