/- Walks: octagons copied. -/
import Derived.Test.YtghpiofjejhegaaOctE
import Derived.Test.YtghpiofjejhegaaMem
import Derived.WalkSpells
import Derived.Deep.RegionHeld3
namespace Go.Proofs.Ytghpiofjejhegaa
open Go.RowKit
set_option linter.unusedVariables false
set_option linter.unusedSimpArgs false
open Gn
/-- An argument's struct (an octagon) in a block of its own, and the result variable behind it. -/
structure BoxRes (w W : World) (N : Int) (E : Bool) (v : Value) : Prop where
  c0 : W.cell? ⟨w.heap.size, 0, none⟩ = some (.int .i64 N)
  c1 : W.cell? ⟨w.heap.size, 1, none⟩ = some (.bool E)
  c2 : W.cell? ⟨w.heap.size, 2, none⟩ = some v
  r0 : W.cell? ⟨w.heap.size + 1, 0, none⟩ = some (.int .i64 0)
  r1 : W.cell? ⟨w.heap.size + 1, 1, none⟩ = some (.bool false)
  r2 : W.cell? ⟨w.heap.size + 1, 2, none⟩ = some (.slice none 0 0)
  fc : ∀ i, W.frozen? ⟨w.heap.size, i, none⟩ = false
  fr : ∀ i, W.frozen? ⟨w.heap.size + 1, i, none⟩ = false
  below : Below w.heap.size w W
  lt : w.heap.size + 1 < W.heap.size
theorem BoxRes.go {w W W' : World} {N : Int} {E : Bool} {v : Value} (h : BoxRes w W N E v) (hb : Below W.heap.size W W') : BoxRes w W' N E v :=
  ⟨below_cell hb h.c0, below_cell hb h.c1, below_cell hb h.c2, below_cell hb h.r0, below_cell hb h.r1, below_cell hb h.r2,
    fun i => (hb.frozen (p := ⟨w.heap.size, i, none⟩) (Nat.lt_of_succ_lt h.lt)).trans (h.fc i), fun i => (hb.frozen (p := ⟨w.heap.size + 1, i, none⟩) h.lt).trans (h.fr i),
    h.below.trans (hb.mono (Nat.le_of_lt (Nat.lt_of_succ_lt h.lt))), Nat.lt_of_lt_of_le h.lt hb.size⟩
theorem box_res (w : World) (t : TypeId) (N : Int) (E : Bool) (v : Value) : ∃ W, W = (w.alloc (.cells #[.int .i64 N, .bool E, v] t)).alloc (.cells #[.int .i64 0, .bool false, .slice none 0 0] t) ∧ BoxRes w W N E v ∧ W.heap.size = w.heap.size + 2 := by
  have h1 : OctAt ((w.alloc (.cells #[.int .i64 N, .bool E, v] t)).alloc (.cells #[.int .i64 0, .bool false, .slice none 0 0] t)) w.heap.size N E v := (OctAt.box _ _ _ _ _).alloc _
  have h2 := OctAt.box (w.alloc (.cells #[.int .i64 N, .bool E, v] t)) t 0 false (.slice none 0 0)
  rw [show (w.alloc (.cells #[.int .i64 N, .bool E, v] t)).heap.size = w.heap.size + 1 by simp] at h2
  exact ⟨_, rfl, ⟨h1.c0, h1.c1, h1.c2, h2.c0, h2.c1, h2.c2, fun i => by simp [go_sem], fun i => by simp [go_sem], ((Below.refl _ _).alloc (Nat.le_refl _) _).alloc (by simp) _, by simp⟩, by simp⟩
theorem cells_res {w W : World} {N N' : Int} {E E' : Bool} {v v' : Value} (h : BoxRes w W N E v) : Below w.heap.size w (((W.setCell ⟨w.heap.size + 1, 0, none⟩ (.int .i64 N')).setCell ⟨w.heap.size + 1, 1, none⟩ (.bool E')).setCell ⟨w.heap.size + 1, 2, none⟩ v') :=
  ((h.below.setCell (by simp) _).setCell (by simp) _).setCell (by simp) _
/-- A row of the call's own outlasts a store below its base. -/
theorem Ow.low {w : World} {base : Nat} {e : TypeId} {k : IntKind} {A : Option Addr} {c : Nat} {xs : List Int} (h : Ow w base e k A c xs) {p : Addr} (hp : p.block < base) (u : Value) : Ow (w.setCell p u) base e k A c xs :=
  ownsRow_setCell_below h hp u
end Go.Proofs.Ytghpiofjejhegaa
