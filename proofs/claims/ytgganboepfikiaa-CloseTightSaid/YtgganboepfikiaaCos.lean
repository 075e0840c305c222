/- The walks of Cost, of close and of the document's. -/
import Derived.Test.YtgganboepfikiaaClw
namespace Go.Proofs.Ytgganboepfikiaa
open Go.RowKit
set_option linter.unusedVariables false
set_option linter.unusedSimpArgs false
open Gn
namespace Gn
def costV (n : Int) : Int := if n < 0 ∨ 64 < n then 0 else 8 * n * n * n
end Gn
theorem close_Cost (n : Int) (w : World) : Calls Try.prog 41 #[.int .i64 n] w fun e w' => e = .returned (.int .i64 (costV n)) ∧ Below w.heap.size w w' := by
  by_cases h1 : n < 0
  · rw [show costV n = 0 by unfold costV; rw [if_pos (.inl h1)]]
    go_enter Try.func41, Try.ntmps41
    go_wp2_with fail
    go_ret
    exact ⟨rfl, Below.refl _ _⟩
  · by_cases h2 : 64 < n
    · rw [show costV n = 0 by unfold costV; rw [if_pos (.inr h2)]]
      go_enter Try.func41, Try.ntmps41
      go_wp2_with fail
      go_ret
      exact ⟨rfl, Below.refl _ _⟩
    · have hv : costV n = 8 * n * n * n := by unfold costV; rw [if_neg (by omega)]
      rw [hv]
      clear hv
      obtain ⟨m, rfl⟩ := Int.eq_ofNat_of_zero_le (show 0 ≤ n by omega)
      have hm : m ≤ 64 := by omega
      have e1 : 8 * (m : Int) = ((8 * m : Nat) : Int) := by push_cast; rfl
      have l1 : 8 * m ≤ 512 := by omega
      rw [e1]
      generalize 8 * m = a at *
      have e2 : (a : Int) * (m : Int) = ((a * m : Nat) : Int) := by push_cast; rfl
      have l2 : a * m ≤ 512 * 64 := Nat.mul_le_mul l1 hm
      rw [e2]
      generalize a * m = b at *
      have e3 : (b : Int) * (m : Int) = ((b * m : Nat) : Int) := by push_cast; rfl
      have l3 : b * m ≤ 512 * 64 * 64 := Nat.mul_le_mul l2 hm
      rw [e3]
      generalize b * m = c at *
      go_enter Try.func41, Try.ntmps41
      go_wp2_with fail
      go_ret
      exact ⟨rfl, Below.refl _ _⟩
theorem ref_Cost (n : Int) (w : World) : Calls Try.prog 42 #[.int .i64 n] w fun e w' => e = .returned (.int .i64 (costV n)) ∧ Below w.heap.size w w' := by
  by_cases h1 : n < 0
  · rw [show costV n = 0 by unfold costV; rw [if_pos (.inl h1)]]
    go_enter Try.func42, Try.ntmps42
    go_wp2_with fail
    go_ret
    exact ⟨rfl, Below.refl _ _⟩
  · by_cases h2 : 64 < n
    · rw [show costV n = 0 by unfold costV; rw [if_pos (.inr h2)]]
      go_enter Try.func42, Try.ntmps42
      go_wp2_with fail
      go_ret
      exact ⟨rfl, Below.refl _ _⟩
    · have hv : costV n = 8 * n * n * n := by unfold costV; rw [if_neg (by omega)]
      rw [hv]
      clear hv
      obtain ⟨m, rfl⟩ := Int.eq_ofNat_of_zero_le (show 0 ≤ n by omega)
      have hm : m ≤ 64 := by omega
      have e1 : 8 * (m : Int) = ((8 * m : Nat) : Int) := by push_cast; rfl
      have l1 : 8 * m ≤ 512 := by omega
      rw [e1]
      generalize 8 * m = a at *
      have e2 : (a : Int) * (m : Int) = ((a * m : Nat) : Int) := by push_cast; rfl
      have l2 : a * m ≤ 512 * 64 := Nat.mul_le_mul l1 hm
      rw [e2]
      generalize a * m = b at *
      have e3 : (b : Int) * (m : Int) = ((b * m : Nat) : Int) := by push_cast; rfl
      have l3 : b * m ≤ 512 * 64 * 64 := Nat.mul_le_mul l2 hm
      rw [e3]
      generalize b * m = c at *
      go_enter Try.func42, Try.ntmps42
      go_wp2_with fail
      go_ret
      exact ⟨rfl, Below.refl _ _⟩
end Go.Proofs.Ytgganboepfikiaa
