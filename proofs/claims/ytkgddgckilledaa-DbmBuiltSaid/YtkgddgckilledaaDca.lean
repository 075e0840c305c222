/- Which of two cells stands ahead: cmp.Compare, slices.Compare, dbm's cell.ahead. -/
import Derived.Test.YtkgddgckilledaaWid
import Derived.Test.YtkgddgckilledaaCea
import Derived.Deep.DeepCutAuto
import Derived.LoopN
namespace Go.Proofs.Ytkgddgckilledaa
open Go.RowKit
set_option linter.unusedVariables false
set_option linter.unusedSimpArgs false
open Gn
theorem cmp_CompareInt (a b : Int) (w : World) : Calls Try.prog 78 #[.int .i64 a, .int .i64 b] w fun e w' => e = .returned (.int .i64 (cmpI a b)) ∧ w = w' := by
  by_cases h1 : a < b
  · have HC := Lib.hid (show (-1 : Int) = cmpI a b by unfold cmpI; rw [if_pos h1])
    go_enter Try.func78, Try.ntmps78
    go_wp2
    go_ret
    exact ret1_int HC.out
  · by_cases h2 : b < a
    · have HC := Lib.hid (show (1 : Int) = cmpI a b by unfold cmpI; rw [if_neg h1, if_pos h2])
      go_enter Try.func78, Try.ntmps78
      go_wp2
      go_ret
      exact ret1_int HC.out
    · have HC := Lib.hid (show (0 : Int) = cmpI a b by unfold cmpI; rw [if_neg h1, if_neg h2])
      go_enter Try.func78, Try.ntmps78
      go_wp2
      go_ret
      exact ret1_int HC.out
theorem Gn.orI_lt {a b c d : Int} : orI (cmpI a c) (cmpI b d) < 0 ↔ a < c ∨ (a = c ∧ b < d) := by
  unfold orI cmpI
  repeat' split
  all_goals omega
set_option maxRecDepth 100000 in
set_option maxHeartbeats 4000000 in
theorem slices_Compare2 (g1 g2 : Nat) (a b c d : Int) (w : World) (h0 : w.cell? ⟨g1, 0, none⟩ = some (.int .i64 a)) (h1 : w.cell? ⟨g1, 1, none⟩ = some (.int .i64 b)) (h2 : w.cell? ⟨g2, 0, none⟩ = some (.int .i64 c)) (h3 : w.cell? ⟨g2, 1, none⟩ = some (.int .i64 d)) :
    Calls Try.prog 62 #[.slice (some ⟨g1, 0, none⟩) 2 2, .slice (some ⟨g2, 0, none⟩) 2 2] w fun e w' => e = .returned (.int .i64 (orI (cmpI a c) (cmpI b d))) ∧ w = w' := by
  have c1 := cmp_CompareInt a c w
  have c2 := cmp_CompareInt b d w
  have HO := Lib.hid (show orI (cmpI a c) (cmpI b d) = if cmpI a c ≠ 0 then cmpI a c else cmpI b d from rfl)
  generalize orI (cmpI a c) (cmpI b d) = r at *
  generalize cmpI a c = x at *
  generalize cmpI b d = y at *
  go_enter Try.func62, Try.ntmps62
  go_wp2_with fail
  refine wp_loop_rounds 3 ?_
  rw [rounds_succ]
  go_wp2_with fail
  with_reducible refine c1.mono ?_
  clear c1
  rintro e w' ⟨rfl, rfl⟩
  by_cases hx : x = 0
  · have dx : (x != 0) = false := bne_eq_false_iff_eq.2 hx
    have HR := Lib.hid (show r = if y ≠ 0 then y else 0 by rw [HO.out, if_neg (fun k => k hx)]; split <;> omega)
    clear hx HO
    go_wp2_with fail
    rw [rounds_succ]
    go_wp2_with fail
    with_reducible refine c2.mono ?_
    clear c2
    rintro e w' ⟨rfl, rfl⟩
    by_cases hy : y = 0
    · have dy : (y != 0) = false := bne_eq_false_iff_eq.2 hy
      have HF := Lib.hid (show r = 0 by rw [HR.out, if_neg (fun k => k hy)])
      clear hy HR
      go_wp2_with fail
      rw [rounds_succ]
      go_wp2_with fail
      go_ret
      exact ⟨by rw [HF.out]; rfl, rfl⟩
    · have dy : (y != 0) = true := bne_iff_ne.2 hy
      have HF := Lib.hid (show r = y by rw [HR.out, if_pos hy])
      clear hy HR
      go_wp2_with fail
      go_ret
      exact ⟨by rw [HF.out]; rfl, rfl⟩
  · have dx : (x != 0) = true := bne_iff_ne.2 hx
    have HF := Lib.hid (show r = x by rw [HO.out, if_pos hx])
    clear hx HO
    go_wp2_with fail
    go_ret
    exact ⟨by rw [HF.out]; rfl, rfl⟩
set_option maxRecDepth 100000 in
set_option maxHeartbeats 4000000 in
theorem cell_ahead (a b c d : Int) (w : World) :
    Calls Try.prog 35 #[.agg #[.int .i64 a, .int .i64 b], .agg #[.int .i64 c, .int .i64 d]] w fun e w' => e = .returned (.bool (decide (orI (cmpI a c) (cmpI b d) < 0))) ∧ Below w.heap.size w w' := by
  obtain ⟨W, hW⟩ : ∃ W, W = (w.alloc (.cells #[.int .i64 a, .int .i64 b] /-T-/64)).alloc (.cells #[.int .i64 c, .int .i64 d] /-T-/64) := ⟨_, rfl⟩
  have hB : Below w.heap.size w W := by rw [hW]; exact ((Below.refl _ _).alloc (Nat.le_refl _) _).alloc (by simp) _
  have h0 : W.cell? ⟨w.heap.size, 0, none⟩ = some (.int .i64 a) := by rw [hW]; simp [go_sem]
  have h1 : W.cell? ⟨w.heap.size, 1, none⟩ = some (.int .i64 b) := by rw [hW]; simp [go_sem]
  have h2 : W.cell? ⟨w.heap.size + 1, 0, none⟩ = some (.int .i64 c) := by rw [hW]; simp [go_sem]
  have h3 : W.cell? ⟨w.heap.size + 1, 1, none⟩ = some (.int .i64 d) := by rw [hW]; simp [go_sem]
  have cS := fun X (hX : Below W.heap.size W X) => slices_Compare2 w.heap.size (w.heap.size + 1) a b c d X (below_cell hX h0) (below_cell hX h1) (below_cell hX h2) (below_cell hX h3)
  generalize orI (cmpI a c) (cmpI b d) = r at *
  clear h0 h1 h2 h3
  go_enter Try.func35, Try.ntmps35
  go_upto_region 1 with fail
  rw [← hW]
  clear hW
  refine wp_region_after (by kernel_rfl) (by kernel_rfl) ?_
  repeat (go_big_quiet_step ((go_at_call 62; with_reducible exact after_same (cS _ (After.below _)))))
  refine wpQuiet_nil ?_
  intro w2 hb2
  have hend := Lib.hid (hB.trans (hb2.mono hB.size))
  clear hb2 hB cS
  go_wp2_with fail
  go_ret
  exact ⟨rfl, hend.out⟩
theorem Gn.fst2_ahead {i j : Nat} : decide (orI (cmpI (ac j : Int) i) (cmpI (ac i : Int) j) < 0) = !fst2 i j := by
  unfold fst2
  rw [Bool.eq_iff_iff, decide_eq_true_eq, orI_lt]
  simp
  omega
end Go.Proofs.Ytkgddgckilledaa
