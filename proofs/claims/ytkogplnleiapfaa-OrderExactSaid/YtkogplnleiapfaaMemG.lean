/- Words for memory: only one block has turned; a row that make or a literal has made. No program in sight. -/
import Derived.Test.YtkogplnleiapfaaMemS
namespace Go.Proofs.Ytkogplnleiapfaa
open Go.RowKit
section
variable {a w w' w'' : World} {g : Nat} {row : Option Nat}
theorem only_drewN (h : a.grownBy w row) (n : Nat) : a.grownBy (w.drewN n) row := ⟨h.os, h.tape, h.output, h.size, h.block⟩
theorem only_drew (h : a.grownBy w row) : a.grownBy w.drew row := ⟨h.os, h.tape, h.output, h.size, h.block⟩
theorem only_alloc (h : a.grownBy w row) (o : Obj) : a.grownBy (w.alloc o) row :=
  ⟨h.os, h.tape, h.output, Nat.le_trans h.size (by simp), fun i hi hne => (Below.heap_alloc w o i (Nat.lt_of_lt_of_le hi h.size)).trans (h.block i hi hne)⟩
theorem only_setCell (h : a.grownBy w (some g)) {p : Addr} (hp : p.block = g ∨ a.heap.size ≤ p.block) (u : Value) : a.grownBy (w.setCell p u) (some g) :=
  ⟨h.os, h.tape, h.output, by simpa [World.setCell] using h.size, fun i hi hne => (Below.heap_setCell w p u i (by
    rintro rfl
    rcases hp with hp | hp
    · exact hne (by rw [hp])
    · omega)).trans (h.block i hi hne)⟩
theorem only_below (h : a.grownBy w row) (hb : Below w.heap.size w w') : a.grownBy w' row :=
  ⟨hb.os.trans h.os, hb.tape.trans h.tape, hb.output.trans h.output, Nat.le_trans h.size hb.size, fun i hi hne => (hb.block i (Nat.lt_of_lt_of_le hi h.size)).trans (h.block i hi hne)⟩
theorem only_of_below (h : Below a.heap.size a w) (row : Option Nat) : a.grownBy w row := ⟨h.os, h.tape, h.output, h.size, fun i hi _ => h.block i hi⟩
theorem only_cell (h : a.grownBy w (some g)) {p : Addr} {v : Value} (hc : a.cell? p = some v) (hne : p.block ≠ g) : w.cell? p = some v :=
  h.cell hc (fun e => hne (by injection e))
theorem only_frozen (h : a.grownBy w (some g)) {p : Addr} {b : Bool} (hc : a.frozen? p = b) (hl : p.block < a.heap.size) (hne : p.block ≠ g) : w.frozen? p = b :=
  (World.frozen?_of_block (w := a) (h.block _ hl (fun e => hne (by injection e)))).trans hc
/-- Only a block from B on has turned. -/
theorem only_back {B : Nat} (h : a.grownBy w (some g)) (hB : B ≤ a.heap.size) (hg : B ≤ g) : Below B a w :=
  ⟨h.os, h.tape, h.output, h.size, fun k hk => h.block k (by omega) (fun e => by injection e; omega)⟩
end
section
variable {w w' : World} {B n c g : Nat} {k : IntKind} {base : Nat} {e : TypeId} {xs : List Int} {A : Option Addr} {f : Nat → Int}
/-- What make lays. -/
theorem Ow.made (w : World) (base n : Nat) (e : TypeId) (k : IntKind) (hb : base ≤ w.heap.size) (hn : n ≤ maxLen) :
    Ow (w.alloc (.cells (madeCells #[.int k 0] n) e)) base e k (some ⟨w.heap.size, 0, none⟩) n (List.replicate n 0) := by
  have := World.ownsRow_lit (base := base) (e := e) (size := 1) w (madeCells #[.int k 0] n) n hb hn (by simp [size_madeCells])
  rw [toList_madeCells_one] at this
  unfold Ow
  rw [List.length_replicate, List.map_replicate]
  exact this
/-- What a literal lays. -/
theorem Ow.lit (w : World) (base : Nat) (e : TypeId) (k : IntKind) (xs : List Int) (hb : base ≤ w.heap.size) (hn : xs.length ≤ maxLen) :
    Ow (w.alloc (.cells (xs.map (Value.int k)).toArray e)) base e k (some ⟨w.heap.size, 0, none⟩) xs.length xs := by
  have := World.ownsRow_lit (base := base) (e := e) (size := 1) w (xs.map (Value.int k)).toArray xs.length hb hn (by simp)
  rw [List.toList_toArray] at this
  exact this
/-- A row of the call's own where another block has turned. -/
theorem Ow.other (h : Ow w base e k (some ⟨g, 0, none⟩) c xs) {row : Option Nat} (hg : w.grownBy w' row) (hne : row ≠ some g) : Ow w' base e k (some ⟨g, 0, none⟩) c xs :=
  World.ownsRow.kept (row := row) h hg (by
    right; simp only [Value.ownBlock]; exact fun e => hne e.symm)
theorem Ow.other' {g' : Nat} (h : Ow w base e k (some ⟨g, 0, none⟩) c xs) (hg : w.grownBy w' (some g')) (hne : g' ≠ g) : Ow w' base e k (some ⟨g, 0, none⟩) c xs :=
  h.other hg (fun e => hne (by injection e))
theorem Rd.of_block {b off : Nat} (h : ∀ i, i < n → w.cell? ⟨b, off + i, none⟩ = some (.int k (f i))) (hb : b < B) : Rd w B k (some ⟨b, off, none⟩) n f := fun _ => ⟨b, off, rfl, hb, h⟩
theorem Ow.cellAt' {n' i : Nat} (h : Ow w base e k (some ⟨g, 0, none⟩) c xs) (hn : xs.length = n') (hi : i < n') : w.cell? ⟨g, i, none⟩ = some (.int k (nth xs i)) := h.cellAt (by omega)
theorem Ow.frozenAt' (h : Ow w base e k (some ⟨g, 0, none⟩) c xs) (i : Nat) : w.frozen? ⟨g, i, none⟩ = false := h.frozenAt i
theorem Ow.set' (h : Ow w base e k (some ⟨g, 0, none⟩) c xs) (i : Nat) (u : Int) : Ow (w.setCell ⟨g, i, none⟩ (.int k u)) base e k (some ⟨g, 0, none⟩) c (xs.set i u) := h.set i u
end
theorem retS {A : Option Addr} {m n c : Nat} (h : m = n) : Ending.returned (.slice A m c) = .returned (.slice A n c) := by rw [h]
theorem valS {A : Option Addr} {m n c : Nat} (h : m = n) : Value.slice A m c = .slice A n c := by rw [h]
/-- A struct of an octagon in memory. -/
structure OctAt (w : World) (b : Nat) (N : Int) (E : Bool) (v : Value) : Prop where
  c0 : w.cell? ⟨b, 0, none⟩ = some (.int .i64 N)
  c1 : w.cell? ⟨b, 1, none⟩ = some (.bool E)
  c2 : w.cell? ⟨b, 2, none⟩ = some v
section
variable {w w' : World} {b : Nat} {N : Int} {E : Bool} {v : Value}
theorem OctAt.lt (h : OctAt w b N E v) : b < w.heap.size := World.block_lt_of_cell? w ⟨b, 0, none⟩ h.c0
theorem OctAt.below (h : OctAt w b N E v) (hb : Below w.heap.size w w') : OctAt w' b N E v := ⟨(hb.cell (p := ⟨b, 0, none⟩) h.lt).trans h.c0, (hb.cell (p := ⟨b, 1, none⟩) h.lt).trans h.c1, (hb.cell (p := ⟨b, 2, none⟩) h.lt).trans h.c2⟩
theorem OctAt.only {g : Nat} (h : OctAt w b N E v) (hg : w.grownBy w' (some g)) (hne : b ≠ g) : OctAt w' b N E v := ⟨only_cell hg h.c0 hne, only_cell hg h.c1 hne, only_cell hg h.c2 hne⟩
theorem OctAt.box (w : World) (t : TypeId) (N : Int) (E : Bool) (v : Value) : OctAt (w.alloc (.cells #[.int .i64 N, .bool E, v] t)) w.heap.size N E v :=
  ⟨by simp [World.cell?_alloc_new], by simp [World.cell?_alloc_new], by simp [World.cell?_alloc_new]⟩
theorem OctAt.alloc (h : OctAt w b N E v) (o : Obj) : OctAt (w.alloc o) b N E v := h.below ((Below.refl _ _).alloc (Nat.le_refl _) _)
end
end Go.Proofs.Ytkogplnleiapfaa
