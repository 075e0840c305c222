/- Walks of the small functions of dbm and gnomonref12. -/
import Derived.Test.YtkgddgckilledaaOct
import Derived.Test.YtkgddgckilledaaMem
import Derived.Test.YtkgddgckilledaaBndW
import Derived.Laws.BitsAllLaws
import Derived.Lib.Hide
namespace Go.Proofs.Ytkgddgckilledaa
open Go.RowKit
set_option linter.unusedVariables false
set_option linter.unusedSimpArgs false
open Gn
theorem dbm_right (n : Int) (w : World) : Calls Try.prog 41 #[.int .i64 n] w fun e w' => e = .returned (.bool (decide (0 ≤ n ∧ n ≤ 64))) ∧ w = w' := by
  go_enter Try.func41, Try.ntmps41
  by_cases h0 : 0 ≤ n
  · by_cases h1 : n ≤ 64
    · go_wp2_with fail
      go_ret
      simp [h0, h1]
    · go_wp2_with fail
      go_ret
      simp [h1]
  · go_wp2_with fail
    go_ret
    simp; omega
theorem ref_Across (i : Nat) (w : World) (h : i < 1000000) : Calls Try.prog 53 #[.int .i64 i] w fun e w' => e = .returned (.int .i64 (ac i)) ∧ w = w' := by
  go_enter Try.func53, Try.ntmps53
  have hm : (i : Int).tmod 2 = ((i % 2 : Nat) : Int) := by rw [Int.tmod_eq_emod_of_nonneg (by omega)]; omega
  by_cases h0 : i % 2 = 0
  · have hb : (((i % 2 : Nat) : Int) == 0) = true := by rw [h0]; rfl
    have he : ((ac i : Nat) : Int) = i + 1 := by unfold ac; rw [if_pos h0]; omega
    rw [he]
    go_wp2_with fail
    go_ret
    simp
  · have hb : (((i % 2 : Nat) : Int) == 0) = false := beq_eq_false_iff_ne.2 (by omega)
    have he : ((ac i : Nat) : Int) = i - 1 := by unfold ac; rw [if_neg h0]; omega
    rw [he]
    go_wp2_with fail
    go_ret
    simp
theorem cell_at (i j n : Nat) (w : World) (hi : i < 1000) (hj : j < 1000) (hn : n < 1000) :
    Calls Try.prog 36 #[.agg #[.int .i64 i, .int .i64 j], .int .i64 n] w fun e w' => e = .returned (.int .i64 ((i * (2 * n) + j : Nat) : Int)) ∧ Below w.heap.size w w' := by
  have hb : i * (2 * n) ≤ 1000 * 2000 := Nat.mul_le_mul (by omega) (by omega)
  have e2 : (2 * (n : Int)) * (i : Int) = ((i * (2 * n) : Nat) : Int) := by push_cast; rw [Int.mul_comm]
  generalize i * (2 * n) = p at *
  go_enter Try.func36, Try.ntmps36
  go_wp2_with fail
  go_ret
  exact ⟨by push_cast; rfl, (Below.refl _ _).alloc (Nat.le_refl _) _⟩
theorem xor_one {x : Nat} (h : x < 256) : bits .xor .i64 (x : Int) 1 = (ac x : Int) := by
  have h' : ∀ x, x < 256 → bits .xor .i64 ((x : Nat) : Int) 1 = ((ac x : Nat) : Int) := by decide +kernel
  exact h' x h
theorem cell_mirror (i j : Nat) (w : World) (hi : i < 256) (hj : j < 256) :
    Calls Try.prog 34 #[.agg #[.int .i64 i, .int .i64 j]] w fun e w' => e = .returned (.agg #[.int .i64 (ac j), .int .i64 (ac i)]) ∧ Below w.heap.size w w' := by
  have ei := xor_one hi
  have ej := xor_one hj
  generalize ac i = ai at *
  generalize ac j = aj at *
  go_enter Try.func34, Try.ntmps34
  go_wp2_with fail
  exact bodyPost_ret (v := .agg #[.int .i64 aj, .int .i64 ai]) (by simp [results, Try.results34, go_sem]) rfl ⟨rfl, ((Below.refl _ _).alloc (Nat.le_refl _) _).alloc (by simp) _⟩
end Go.Proofs.Ytkgddgckilledaa
