/- Walks: Equal, of the packages dbm and gnomonref12. -/
import Derived.Test.YtkogplnleiapfaaOctE
namespace Go.Proofs.Ytkogplnleiapfaa
open Go.RowKit
set_option linter.unusedVariables false
set_option linter.unusedSimpArgs false
open Gn
theorem maxLen_le {c : Nat} (h : c ≤ maxLen) : (c : Int) ≤ 9223372036854775807 := by unfold maxLen at h; omega
section
variable {w w' : World} {B : Nat} {A : Option Addr} {c : Nat} {N : Int} {M : List Int}
theorem OctIn.below (h : OctIn w B A c N M) (hb : Below B w w') : OctIn w' B A c N M := ⟨h.hN, h.rd.below hb, h.i64, h.le, h.max⟩
theorem OctIn.more (h : OctIn w B A c N M) {B' : Nat} (hB : B ≤ B') : OctIn w B' A c N M := ⟨h.hN, h.rd.more hB, h.i64, h.le, h.max⟩
theorem OctIn.go (h : OctIn w w.heap.size A c N M) (hb : Below w.heap.size w w') : OctIn w' w'.heap.size A c N M := (h.below hb).more hb.size
theorem OctIn.len (h : OctIn w B A c N M) : (M.length : Int) ≤ 9223372036854775807 := by
  have := maxLen_le h.max
  have := h.le
  omega
end
/-- Are two octagons the same, and may they be? -/
def eqO (N N' : Int) (E E' : Bool) (M M' : List Int) : Bool := decide (chk N E M = 0 ∧ chk N' E' M' = 0 ∧ N = N' ∧ E = E' ∧ M = M')
theorem eqO_def (N N' : Int) (E E' : Bool) (M M' : List Int) : eqO N N' E E' M M' = decide (chk N E M = 0 ∧ chk N' E' M' = 0 ∧ N = N' ∧ E = E' ∧ M = M') := rfl
end Go.Proofs.Ytkogplnleiapfaa
