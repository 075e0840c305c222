/- A matrix under way: its struct in memory and its row. The small walks of close: at, sum; of gnomonref13: plus. -/
import Derived.Test.YtkgddgckilledaaQb
import Derived.Test.YtkgddgckilledaaOctF
namespace Go.Proofs.Ytkgddgckilledaa
open Go.RowKit
set_option linter.unusedVariables false
set_option linter.unusedSimpArgs false
open Gn
/-- The struct at block b: a number, a row, whether a sum saturated, (whether it is empty); all of the call's own (from B on), and nothing ahead of B has turned since w0. -/
structure Mx (w0 w : World) (B b : Nat) (A : Option Addr) (n : Int) (c : Nat) (X : List Int) (s : Bool) (e : Option Bool) : Prop where
  c0 : w.cell? ⟨b, 0, none⟩ = some (.int .i64 n)
  c1 : w.cell? ⟨b, 1, none⟩ = some (.slice A X.length c)
  c2 : w.cell? ⟨b, 2, none⟩ = some (.bool s)
  c3 : ∀ e', e = some e' → w.cell? ⟨b, 3, none⟩ = some (.bool e')
  fz : ∀ i, w.frozen? ⟨b, i, none⟩ = false
  ow : Ow w B 2 .i64 A c X
  ne : ∀ g, A = some ⟨g, 0, none⟩ → g ≠ b
  hb : B ≤ b
  hB : B ≤ w0.heap.size
  below : Below B w0 w
section
variable {w0 w w' : World} {B b g : Nat} {A : Option Addr} {n : Int} {c : Nat} {X : List Int} {s : Bool} {e : Option Bool}
theorem Mx.lt (h : Mx w0 w B b A n c X s e) : b < w.heap.size := World.block_lt_of_cell? w ⟨b, 0, none⟩ h.c0
theorem Mx.go (h : Mx w0 w B b A n c X s e) (hb : Below w.heap.size w w') : Mx w0 w' B b A n c X s e :=
  ⟨below_cell hb h.c0, below_cell hb h.c1, below_cell hb h.c2, fun e' he => below_cell hb (h.c3 e' he), fun i => (hb.frozen (p := ⟨b, i, none⟩) h.lt).trans (h.fz i), h.ow.below hb, h.ne, h.hb, h.hB,
    h.below.trans (hb.mono (Nat.le_trans h.hB h.below.size))⟩
theorem Mx.ow_turn (h : Mx w0 w B b A n c X s e) (hg : w.grownBy w' (some b)) : Ow w' B 2 .i64 A c X := by
  rcases h.ow.form with ⟨rfl, rfl, rfl⟩ | ⟨g, rfl, h1, h2, _⟩
  · exact Ow.nil _ _ _ _
  · exact h.ow.other' hg (fun e => h.ne g rfl e.symm)
/-- Whether a sum saturated is told. -/
theorem Mx.sat (h : Mx w0 w B b A n c X s e) (s' : Bool) : Mx w0 (w.setCell ⟨b, 2, none⟩ (.bool s')) B b A n c X s' e := by
  have hg := only_setCell (World.grownBy.refl w (some b)) (p := ⟨b, 2, none⟩) (.inl rfl) (.bool s')
  exact ⟨(World.cell?_setCell_other _ _ _ _ (by simp)).trans h.c0, (World.cell?_setCell_other _ _ _ _ (by simp)).trans h.c1, World.cell?_setCell_same _ _ _ h.c2,
    fun e' he => (World.cell?_setCell_other _ _ _ _ (by simp)).trans (h.c3 e' he), fun i => (World.frozen?_setCell _ _ _ _).trans (h.fz i), h.ow_turn hg, h.ne, h.hb, h.hB, h.below.setCell h.hb _⟩
/-- Whether it is empty is told. -/
theorem Mx.emp {e0 : Bool} (h : Mx w0 w B b A n c X s (some e0)) (e1 : Bool) : Mx w0 (w.setCell ⟨b, 3, none⟩ (.bool e1)) B b A n c X s (some e1) := by
  have hg := only_setCell (World.grownBy.refl w (some b)) (p := ⟨b, 3, none⟩) (.inl rfl) (.bool e1)
  exact ⟨(World.cell?_setCell_other _ _ _ _ (by simp)).trans h.c0, (World.cell?_setCell_other _ _ _ _ (by simp)).trans h.c1, (World.cell?_setCell_other _ _ _ _ (by simp)).trans h.c2,
    fun e' he => by injection he with he; subst he; exact World.cell?_setCell_same _ _ _ (h.c3 _ rfl), fun i => (World.frozen?_setCell _ _ _ _).trans (h.fz i), h.ow_turn hg, h.ne, h.hb, h.hB, h.below.setCell h.hb _⟩
/-- A cell of the row is stored. -/
theorem Mx.put (h : Mx w0 w B b (some ⟨g, 0, none⟩) n c X s e) (p : Nat) (u : Int) (hgB : B ≤ g) : Mx w0 (w.setCell ⟨g, p, none⟩ (.int .i64 u)) B b (some ⟨g, 0, none⟩) n c (X.set p u) s e := by
  have hne := h.ne g rfl
  have hn : ∀ q, (⟨g, p, none⟩ : Addr) ≠ ⟨b, q, none⟩ := fun q hq => hne (by injection hq)
  exact ⟨(World.cell?_setCell_other _ _ _ _ (hn 0)).trans h.c0, (World.cell?_setCell_other _ _ _ _ (hn 1)).trans (by rw [List.length_set]; exact h.c1), (World.cell?_setCell_other _ _ _ _ (hn 2)).trans h.c2,
    fun e' he => (World.cell?_setCell_other _ _ _ _ (hn 3)).trans (h.c3 e' he), fun i => (World.frozen?_setCell _ _ _ _).trans (h.fz i), h.ow.set' p u, h.ne, h.hb, h.hB, h.below.setCell hgB _⟩
theorem Mx.blockOf (h : Mx w0 w B b A n c X s e) (hl : 0 < X.length) : ∃ g, A = some ⟨g, 0, none⟩ ∧ B ≤ g ∧ g < w.heap.size := h.ow.blockOf hl
theorem Mx.cellAt (h : Mx w0 w B b (some ⟨g, 0, none⟩) n c X s e) {p : Nat} (hp : p < X.length) : w.cell? ⟨g, p, none⟩ = some (.int .i64 (nth X p)) := h.ow.cellAt hp
theorem Mx.frozenAt (h : Mx w0 w B b (some ⟨g, 0, none⟩) n c X s e) (p : Nat) : w.frozen? ⟨g, p, none⟩ = false := h.ow.frozenAt p
end
/-- A pointer to a cell. -/
theorem mx_at {w : World} {b g c n i j l : Nat} (h0 : w.cell? ⟨b, 0, none⟩ = some (.int .i64 n)) (h1 : w.cell? ⟨b, 1, none⟩ = some (.slice (some ⟨g, 0, none⟩) l c)) (hi : i < 1000) (hj : j < 1000) (hn : n < 1000) (hp : i * (2 * n) + j < l) :
    Calls Try.prog 92 #[.pointer (some ⟨b, 0, none⟩), .int .i64 i, .int .i64 j] w fun e w' => e = .returned (.pointer (some ⟨g, i * (2 * n) + j, none⟩)) ∧ ∃ m, w' = w.drewN m := by
  have hb : i * (2 * n) ≤ 1000 * 2000 := Nat.mul_le_mul (by omega) (by omega)
  have e2 : (2 * (n : Int)) * (i : Int) = ((i * (2 * n) : Nat) : Int) := by push_cast; rw [Int.mul_comm]
  generalize i * (2 * n) = p at *
  have q1 : ((p + j : Nat) : Int) < (l : Int) := by omega
  go_enter Try.func92, Try.ntmps92
  go_wp2_with fail
  go_quiet (fail)
  go_wp2_with fail
  go_ret
  exact ⟨by push_cast; rfl, _, rfl⟩
/-- The sum of two cells. -/
theorem mx_sum {w0 w : World} {B b : Nat} {A : Option Addr} {n : Int} {c : Nat} {X : List Int} {s : Bool} {e : Option Bool} (h : Mx w0 w B b A n c X s e) (p q : Int) :
    Calls Try.prog 93 #[.pointer (some ⟨b, 0, none⟩), .int .i64 p, .int .i64 q] w fun r w' => r = .returned (.int .i64 (plus p q)) ∧ Mx w0 w' B b A n c X (s || sat p q) e := by
  have cS := fun W => bound_Saturates p q W
  have cP := fun W => bound_Plus p q W
  have hX := h.sat (s || sat p q)
  obtain ⟨c0, c1, c2, _, fz, _, _, _, _, _⟩ := h
  have f2 := fz 2
  clear fz
  generalize plus p q = pl at *
  generalize sat p q = sa at *
  rcases s with _ | _
  · go_enter Try.func93, Try.ntmps93
    go_wp2_with (first | (go_at_call 97; with_reducible refine (cS _).mono ?_; rintro r w1 ⟨rfl, rfl⟩) | (go_at_call 98; with_reducible refine (cP _).mono ?_; rintro r w1 ⟨rfl, rfl⟩))
    go_ret
    exact ⟨rfl, hX⟩
  · go_enter Try.func93, Try.ntmps93
    go_wp2_with (first | (go_at_call 97; with_reducible refine (cS _).mono ?_; rintro r w1 ⟨rfl, rfl⟩) | (go_at_call 98; with_reducible refine (cP _).mono ?_; rintro r w1 ⟨rfl, rfl⟩))
    go_ret
    exact ⟨rfl, hX⟩
theorem mx_plus {w0 w : World} {B b : Nat} {A : Option Addr} {n : Int} {c : Nat} {X : List Int} {s : Bool} {e : Option Bool} (h : Mx w0 w B b A n c X s e) (p q : Int) :
    Calls Try.prog 75 #[.pointer (some ⟨b, 0, none⟩), .int .i64 p, .int .i64 q] w fun r w' => r = .returned (.int .i64 (plus p q)) ∧ Mx w0 w' B b A n c X (s || sat p q) e := by
  have cS := fun W => ref_Saturates p q W
  have cP := fun W => ref_Plus p q W
  have hX := h.sat true
  have hX0 := h
  obtain ⟨c0, c1, c2, _, fz, _, _, _, _, _⟩ := h
  have f2 := fz 2
  clear fz
  generalize plus p q = pl at *
  cases hs : sat p q
  · rw [hs] at cS
    rw [Bool.or_false]
    go_enter Try.func75, Try.ntmps75
    go_wp2_with (first | (go_at_call 89; with_reducible refine (cS _).mono ?_; rintro r w1 ⟨rfl, rfl⟩) | (go_at_call 90; with_reducible refine (cP _).mono ?_; rintro r w1 ⟨rfl, rfl⟩))
    go_ret
    exact ⟨rfl, hX0⟩
  · rw [hs] at cS
    rw [Bool.or_true]
    go_enter Try.func75, Try.ntmps75
    go_wp2_with (first | (go_at_call 89; with_reducible refine (cS _).mono ?_; rintro r w1 ⟨rfl, rfl⟩) | (go_at_call 90; with_reducible refine (cP _).mono ?_; rintro r w1 ⟨rfl, rfl⟩))
    go_ret
    exact ⟨rfl, hX⟩
end Go.Proofs.Ytkgddgckilledaa
