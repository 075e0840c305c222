/- The walk of the statement NumCompares, by the contracts of the functions that it calls. -/
import Derived.Test.YthbjagibohgpaaaNumC
namespace Go.Proofs.Ythbjagibohgpaaa
open Go.RowKit
open Gn
theorem num_known (w : World) : Calls Try.prog 40 #[] w fun e w' => e = .returned (.bool true) ∧ w = w' := by
  have c := num_Div (-7) 2 w (by decide)
  have d := num_Neg (-9223372036854775808) w (by decide)
  rw [show divV (-7) 2 = -3 by decide, show divW (-7) 2 = 0 by decide] at c
  rw [show fitV (- -9223372036854775808) = 0 by decide, show fitW (- -9223372036854775808) = 1 by decide] at d
  go_enter Try.func40, Try.ntmps40
  go_wp2_with (first | (go_at_call 57; refine c.mono ?_; rintro e w' ⟨rfl, rfl⟩) | (go_at_call 49; refine d.mono ?_; rintro e w' ⟨rfl, rfl⟩))
  go_ret
  exact ⟨rfl, rfl⟩
theorem cmp_not (op a b : Int) (h1 : 1 ≤ op) (h2 : op ≤ 6) : (cmp (notOp op) a b != cmp op a b) = true := by
  have h : op = 1 ∨ op = 2 ∨ op = 3 ∨ op = 4 ∨ op = 5 ∨ op = 6 := by omega
  rcases h with rfl | rfl | rfl | rfl | rfl | rfl <;> simp [cmp, notOp] <;> omega
theorem law_NumCompares (op a b : Int) (w : World) :
    Calls Try.prog 8 #[.int .i64 op, .int .i64 a, .int .i64 b] w fun e w' => e = .returned (.bool true) ∧ Below w.heap.size w w' := by
  have k := num_known w
  by_cases h1 : op < 1
  · go_enter Try.func8, Try.ntmps8
    go_wp2_with (first | (go_at_call 40; refine k.mono ?_; rintro e w' ⟨rfl, rfl⟩) | (go_at_call 41; refine (num_Not _ _).mono ?_; rintro e w' ⟨rfl, rfl⟩) | (go_at_call 42; refine (num_Cmp _ _ _ _).mono ?_; rintro e w1 ⟨rfl, hb⟩) | (go_at_call 43; refine (ref_Cmp _ _ _ _).mono ?_; rintro e w' ⟨rfl, rfl⟩) | (go_at_call 44; refine (ref_Not _ _).mono ?_; rintro e w' ⟨rfl, rfl⟩))
    go_ret
    exact ⟨rfl, hb⟩
  · by_cases h2 : 6 < op
    · go_enter Try.func8, Try.ntmps8
      go_wp2_with (first | (go_at_call 40; refine k.mono ?_; rintro e w' ⟨rfl, rfl⟩) | (go_at_call 41; refine (num_Not _ _).mono ?_; rintro e w' ⟨rfl, rfl⟩) | (go_at_call 42; refine (num_Cmp _ _ _ _).mono ?_; rintro e w1 ⟨rfl, hb⟩) | (go_at_call 43; refine (ref_Cmp _ _ _ _).mono ?_; rintro e w' ⟨rfl, rfl⟩) | (go_at_call 44; refine (ref_Not _ _).mono ?_; rintro e w' ⟨rfl, rfl⟩))
      go_ret
      exact ⟨rfl, hb⟩
    · have hc := cmp_not op a b (by omega) (by omega)
      go_enter Try.func8, Try.ntmps8
      go_wp2_with (first | (go_at_call 40; refine k.mono ?_; rintro e w' ⟨rfl, rfl⟩) | (go_at_call 41; refine (num_Not _ _).mono ?_; rintro e w' ⟨rfl, rfl⟩) | (go_at_call 43; refine (ref_Cmp _ _ _ _).mono ?_; rintro e w' ⟨rfl, rfl⟩) | (go_at_call 44; refine (ref_Not _ _).mono ?_; rintro e w' ⟨rfl, rfl⟩))
      refine (num_Cmp _ _ _ _).mono ?_; rintro e w1 ⟨rfl, hb⟩
      go_wp2_with (first | (go_at_call 43; refine (ref_Cmp _ _ _ _).mono ?_; rintro e w' ⟨rfl, rfl⟩) | (go_at_call 44; refine (ref_Not _ _).mono ?_; rintro e w' ⟨rfl, rfl⟩))
      refine (num_Cmp _ _ _ _).mono ?_; rintro e w2 ⟨rfl, hb2⟩
      go_wp2_with fail
      refine (num_Cmp _ _ _ _).mono ?_; rintro e w3 ⟨rfl, hb3⟩
      go_wp2_with fail
      go_ret
      exact ⟨by simpa using Or.inr (by simpa using hc), (hb.trans (hb2.mono hb.size)).trans (hb3.mono (Nat.le_trans hb.size hb2.size))⟩
end Go.Proofs.Ythbjagibohgpaaa
