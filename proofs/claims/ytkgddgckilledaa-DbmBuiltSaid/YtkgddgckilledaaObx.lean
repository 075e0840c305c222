/- Words for a variable that holds an octagon, and is stored anew. -/
import Derived.Test.YtkgddgckilledaaKno
namespace Go.Proofs.Ytkgddgckilledaa
open Go.RowKit
set_option linter.unusedVariables false
set_option linter.unusedSimpArgs false
open Gn
/-- A variable that holds an octagon. -/
structure OctBox (w : World) (b : Nat) (N : Int) (E : Bool) (v : Value) : Prop where
  box : OctAt w b N E v
  fz : ∀ i, w.frozen? ⟨b, i, none⟩ = false
section
variable {w w' : World} {b : Nat} {N : Int} {E : Bool} {v : Value}
theorem OctBox.lt (h : OctBox w b N E v) : b < w.heap.size := h.box.lt
theorem OctBox.below (h : OctBox w b N E v) (hb : Below w.heap.size w w') : OctBox w' b N E v :=
  ⟨h.box.below hb, fun i => (World.frozen?_of_block (w := w) (hb.block _ h.lt)).trans (h.fz i)⟩
theorem OctBox.only {g : Nat} (h : OctBox w b N E v) (hg : w.grownBy w' (some g)) (hne : b ≠ g) : OctBox w' b N E v :=
  ⟨h.box.only hg hne, fun i => only_frozen hg (h.fz i) h.lt hne⟩
theorem OctBox.new (w : World) (t : TypeId) (N : Int) (E : Bool) (v : Value) : OctBox (w.alloc (.cells #[.int .i64 N, .bool E, v] t)) w.heap.size N E v :=
  ⟨OctAt.box w t N E v, fun i => by simp [go_sem]⟩
theorem OctBox.put (h : OctBox w b N E v) (N' : Int) (E' : Bool) (v' : Value) :
    OctBox (((w.setCell ⟨b, 0, none⟩ (.int .i64 N')).setCell ⟨b, 1, none⟩ (.bool E')).setCell ⟨b, 2, none⟩ v') b N' E' v' ∧ w.grownBy (((w.setCell ⟨b, 0, none⟩ (.int .i64 N')).setCell ⟨b, 1, none⟩ (.bool E')).setCell ⟨b, 2, none⟩ v') (some b) := by
  obtain ⟨⟨c0, c1, c2⟩, fz⟩ := h
  refine ⟨⟨⟨?_, ?_, ?_⟩, fun i => ?_⟩, ?_⟩
  · simp [go_sem, c0, c1, c2]
  · simp [go_sem, c0, c1, c2]
  · simp [go_sem, c0, c1, c2]
  · simp [go_sem, fz]
  · have g1 := only_setCell (p := ⟨b, 0, none⟩) (World.grownBy.refl w (some b)) (.inl rfl) (.int .i64 N')
    have g2 := only_setCell (p := ⟨b, 1, none⟩) g1 (.inl rfl) (.bool E')
    exact only_setCell (p := ⟨b, 2, none⟩) g2 (.inl rfl) v'
end
theorem Ow.turn {w w' : World} {base c g : Nat} {A : Option Addr} {M : List Int} (h : Ow w base 2 .i64 A c M) (hg : w.grownBy w' (some g)) (hne : ∀ g', A = some ⟨g', 0, none⟩ → g' ≠ g) : Ow w' base 2 .i64 A c M := by
  rcases h.form with ⟨rfl, rfl, rfl⟩ | ⟨g', rfl, _⟩
  · exact Ow.nil _ _ _ _
  · exact h.other' hg (fun e => hne g' rfl e.symm)
/-- An octagon that grows: the variable, its own row. -/
structure Grow (w0 w : World) (bO : Nat) (n : Nat) (g : Nat) (L : Nat) (X : List Int) : Prop where
  box : OctBox w bO (n : Int) false (.slice (some ⟨g, 0, none⟩) L L)
  row : Ow w w0.heap.size 2 .i64 (some ⟨g, 0, none⟩) L X
  ne : bO ≠ g
  len : X.length = L
  below : Below w0.heap.size w0 w
  ge : w0.heap.size ≤ bO
theorem Grow.go {w0 w w' : World} {bO n g L : Nat} {X : List Int} (h : Grow w0 w bO n g L X) (hb : Below w.heap.size w w') : Grow w0 w' bO n g L X :=
  ⟨h.box.below hb, h.row.below hb, h.ne, h.len, h.below.trans (hb.mono h.below.size), h.ge⟩
/-- A bound laid on it. -/
theorem Grow.bound {w0 w : World} {bO n g L : Nat} {X : List Int} (h : Grow w0 w bO n g L X) (hn : n ≤ 64) (hL : L = (2 * n) * (2 * n)) {i j : Nat} (b : Int) (hi : i < 2 * n) (hj : j < 2 * n) (hij : i ≠ j) :
    Calls Try.prog 51 #[.agg #[.int .i64 n, .bool false, .slice (some ⟨g, 0, none⟩) L L], .int .i64 i, .int .i64 j, .int .i64 b] w fun e w' =>
      e = .returned (.agg #[.int .i64 n, .bool false, .slice (some ⟨g, 0, none⟩) L L]) ∧ Grow w0 w' bO n g L (boundM (2 * n) X i j b) := by
  have hl := h.len
  subst hl
  refine (ref_Bound n g X.length X i j b w w0.heap.size hn hL h.row hi hj hij).mono ?_
  rintro e w' ⟨rfl, ho, hG⟩
  refine ⟨rfl, h.box.only hG h.ne, ho, h.ne, boundM_len _ _ _ _ _, h.below.trans (only_back hG h.below.size h.row.blockGe.1), h.ge⟩
/-- The same, and nothing but the row turns. -/
theorem Grow.bound2 {w0 w : World} {bO n g L : Nat} {X : List Int} (h : Grow w0 w bO n g L X) (hn : n ≤ 64) (hL : L = (2 * n) * (2 * n)) {i j : Nat} (b : Int) (hi : i < 2 * n) (hj : j < 2 * n) (hij : i ≠ j) :
    Calls Try.prog 51 #[.agg #[.int .i64 n, .bool false, .slice (some ⟨g, 0, none⟩) L L], .int .i64 i, .int .i64 j, .int .i64 b] w fun e w' =>
      e = .returned (.agg #[.int .i64 n, .bool false, .slice (some ⟨g, 0, none⟩) L L]) ∧ Grow w0 w' bO n g L (boundM (2 * n) X i j b) ∧ w.grownBy w' (some g) := by
  have hl := h.len
  subst hl
  refine (ref_Bound n g X.length X i j b w w0.heap.size hn hL h.row hi hj hij).mono ?_
  rintro e w' ⟨rfl, ho, hG⟩
  exact ⟨rfl, ⟨h.box.only hG h.ne, ho, h.ne, boundM_len _ _ _ _ _, h.below.trans (only_back hG h.below.size h.row.blockGe.1), h.ge⟩, hG⟩
/-- A table of numbers in memory. -/
def Tab (w : World) (b : Nat) (xs : List Int) : Prop := ∀ i, i < xs.length → w.cell? ⟨b, i, none⟩ = some (.int .i64 (nth xs i))
theorem Tab.go {w w' : World} {b : Nat} {xs : List Int} (h : Tab w b xs) (hb : Below w.heap.size w w') : Tab w' b xs := fun i hi => below_cell hb (h i hi)
theorem Tab.only {w w' : World} {b g : Nat} {xs : List Int} (h : Tab w b xs) (hg : w.grownBy w' (some g)) (hne : b ≠ g) : Tab w' b xs := fun i hi => only_cell hg (h i hi) hne
theorem Tab.new (w : World) (t : TypeId) (xs : List Int) : Tab (w.alloc (.cells (xs.map (Value.int .i64)).toArray t)) w.heap.size xs := fun i hi => by
  rw [World.cell?_alloc_new]
  simp [nth, hi]
theorem Grow.put {w0 w : World} {bO n g L : Nat} {X : List Int} (h : Grow w0 w bO n g L X) :
    Grow w0 (((w.setCell ⟨bO, 0, none⟩ (.int .i64 n)).setCell ⟨bO, 1, none⟩ (.bool false)).setCell ⟨bO, 2, none⟩ (.slice (some ⟨g, 0, none⟩) L L)) bO n g L X := by
  obtain ⟨h1, h2⟩ := h.box.put n false (.slice (some ⟨g, 0, none⟩) L L)
  exact ⟨h1, h.row.other' h2 h.ne, h.ne, h.len, h.below.trans (only_back h2 h.below.size h.ge), h.ge⟩
theorem Tab.put {w0 w : World} {bO n g L b : Nat} {X xs : List Int} (h : Grow w0 w bO n g L X) (t : Tab w b xs) (hne : b ≠ bO) : Tab (((w.setCell ⟨bO, 0, none⟩ (.int .i64 n)).setCell ⟨bO, 1, none⟩ (.bool false)).setCell ⟨bO, 2, none⟩ (.slice (some ⟨g, 0, none⟩) L L)) b xs :=
  t.only (h.box.put n false (.slice (some ⟨g, 0, none⟩) L L)).2 hne
/-- A cell of its row stored. -/
theorem Grow.set {w0 w : World} {bO n g L : Nat} {X : List Int} (h : Grow w0 w bO n g L X) (p : Nat) (u : Int) : Grow w0 (w.setCell ⟨g, p, none⟩ (.int .i64 u)) bO n g L (X.set p u) := by
  have hg := only_setCell (World.grownBy.refl w (some g)) (p := ⟨g, p, none⟩) (.inl rfl) (.int .i64 u)
  exact ⟨h.box.only hg h.ne, h.row.set' p u, h.ne, by rw [List.length_set]; exact h.len, h.below.setCell h.row.blockGe.1 _, h.ge⟩
end Go.Proofs.Ytkgddgckilledaa
