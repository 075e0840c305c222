/- Small walks of cert and gnomonref19; rows of structs that grow. -/
import Derived.Test.YtkgddgckilledaaCea
import Derived.Test.YtkgddgckilledaaOctR
import Derived.Deep.DeepCutAuto
import Derived.Deep.AppendLies
import Derived.Deep.RegionHeld3
namespace Go.Proofs.Ytkgddgckilledaa
open Go.RowKit
set_option linter.unusedVariables false
set_option linter.unusedSimpArgs false
open Gn
theorem ret_bool {b c : Bool} (h : b = c) : Ending.returned (.bool b) = .returned (.bool c) := by rw [h]
theorem bool_eq {b c : Bool} {w : World} (h : b = c) : Ending.returned (.bool b) = .returned (.bool c) ∧ w = w := by rw [h]; exact ⟨rfl, rfl⟩
/-- Two numbers in a variable. -/
structure PrBox (w : World) (b : Nat) (i j : Int) : Prop where
  c0 : w.cell? ⟨b, 0, none⟩ = some (.int .i64 i)
  c1 : w.cell? ⟨b, 1, none⟩ = some (.int .i64 j)
  fz : ∀ k, w.frozen? ⟨b, k, none⟩ = false
theorem PrBox.new (w : World) (t : TypeId) (i j : Int) : PrBox (w.alloc (.cells #[.int .i64 i, .int .i64 j] t)) w.heap.size i j :=
  ⟨by simp [World.cell?_alloc_new], by simp [World.cell?_alloc_new], fun k => by simp [go_sem]⟩
theorem PrBox.lt {w : World} {b : Nat} {i j : Int} (h : PrBox w b i j) : b < w.heap.size := World.block_lt_of_cell? w ⟨b, 0, none⟩ h.c0
theorem PrBox.go {w w' : World} {b : Nat} {i j : Int} (h : PrBox w b i j) (hb : Below w.heap.size w w') : PrBox w' b i j :=
  ⟨below_cell hb h.c0, below_cell hb h.c1, fun k => (hb.frozen (p := ⟨b, k, none⟩) h.lt).trans (h.fz k)⟩
/-- A call's own two variables. -/
theorem two_pr (w : World) (t : TypeId) (i j : Int) : ∃ W, W = (w.alloc (.cells #[.int .i64 i, .int .i64 j] t)).alloc (.cells #[.int .i64 0, .int .i64 0] t) ∧ PrBox W w.heap.size i j ∧ PrBox W (w.heap.size + 1) 0 0 ∧ Below w.heap.size w W := by
  have b1 : Below w.heap.size w (w.alloc (.cells #[.int .i64 i, .int .i64 j] t)) := (Below.refl _ _).alloc (Nat.le_refl _) _
  have h2 := PrBox.new (w.alloc (.cells #[.int .i64 i, .int .i64 j] t)) t 0 0
  rw [show (w.alloc (.cells #[.int .i64 i, .int .i64 j] t)).heap.size = w.heap.size + 1 by simp] at h2
  exact ⟨_, rfl, (PrBox.new w t i j).go ((Below.refl _ _).alloc (Nat.le_refl _) _), h2, b1.alloc (by simp) _⟩
theorem fst2_not {i j : Nat} : (decide ((ac j : Int) < i) || (decide ((i : Int) = (ac j : Int)) && decide ((ac i : Int) < j))) = !fst2 i j := by
  unfold fst2
  rw [Bool.eq_iff_iff]
  simp
  omega
theorem ref_First (i j : Nat) (w : World) (hi : i < 256) (hj : j < 256) :
    Calls Try.prog 32 #[.int .i64 i, .int .i64 j] w fun e w' => e = .returned (.bool (fst2 i j)) ∧ w = w' := by
  have cI := fun W => ref_Across i W (by omega)
  have cJ := fun W => ref_Across j W (by omega)
  have HN : Hid ((decide ((i : Int) < (ac j : Int)) || (decide ((i : Int) = (ac j : Int)) && decide ((j : Int) ≤ (ac i : Int)))) = fst2 i j) := Lib.hid (by
    unfold fst2
    rw [Bool.eq_iff_iff]
    simp
    omega)
  obtain ⟨x, hx⟩ : ∃ x : Bool, x = fst2 i j := ⟨_, rfl⟩
  rw [← hx] at HN ⊢
  clear hx
  generalize ((ac i : Nat) : Int) = a at *
  generalize ((ac j : Nat) : Int) = b at *
  clear hi hj
  generalize (i : Int) = I at *
  generalize (j : Int) = J at *
  go_enter Try.func32, Try.ntmps32
  go_upto_region 2 with (first | (go_at_call 53; with_reducible refine (cJ _).mono ?_; rintro e w' ⟨rfl, rfl⟩) | (go_at_call 53; with_reducible refine (cI _).mono ?_; rintro e w' ⟨rfl, rfl⟩))
  clear cI cJ
  rcases q1 : (decide (I < b)) with _ | _
  · rcases q2 : (decide (I = b)) with _ | _
    · have q2' : (I == b) = false := beq_eq_false_iff_ne.2 (of_decide_eq_false q2)
      have HF := Lib.hid (show x = false by rw [← HN.out, q1, q2]; rfl)
      clear HN q2
      go_wp2_with fail
      go_ret
      exact bool_eq HF.out.symm
    · have q2' : (I == b) = true := beq_iff_eq.2 (of_decide_eq_true q2)
      rcases q3 : (decide (J ≤ a)) with _ | _
      · have HF := Lib.hid (show x = false by rw [← HN.out, q1, q2, q3]; rfl)
        clear HN q2
        go_wp2_with fail
        go_ret
        exact bool_eq HF.out.symm
      · have HF := Lib.hid (show x = true by rw [← HN.out, q1, q2, q3]; rfl)
        clear HN q2
        go_wp2_with fail
        go_ret
        exact bool_eq HF.out.symm
  · have HF := Lib.hid (show x = true by rw [← HN.out, q1]; rfl)
    clear HN
    go_wp2_with fail
    go_ret
    exact bool_eq HF.out.symm
end Go.Proofs.Ytkgddgckilledaa
