/- Walks: Saturates, Plus of the reference, Half, Even, Twice, Less. -/
import Derived.Test.YtkogplnleiapfaaBndS
namespace Go.Proofs.Ytkogplnleiapfaa
open Go.RowKit
open Gn
theorem bound_Half (a : Int) (w : World) :
    Calls Try.prog 79 #[.int .i64 a] w fun e w' => e = .returned (.int .i64 (half a)) ∧ w = w' := by
  have ca := bound_as a w
  have ba := asB_bd a
  have f : half a = if asB a = 9223372036854775807 then 9223372036854775807 else asB a / 2 := rfl
  rw [f]; clear f
  generalize asB a = x at *
  unfold Bd at ba
  by_cases h1 : x = 9223372036854775807
  · rw [if_pos h1]
    subst h1; clear ba
    go_enter Try.func79, Try.ntmps79
    go_wp2_with (go_at_call 104; with_reducible refine ca.mono ?_; rintro e w' ⟨rfl, rfl⟩)
    go_ret
    exact ⟨rfl, rfl⟩
  · have g1 : (x == 9223372036854775807) = false := beq_eq_false_iff_ne.2 h1
    rw [if_neg h1]
    have bx : -4611686018427387904 ≤ x := by omega
    have bx' : x ≤ 4611686018427387904 := by omega
    clear ba h1
    go_enter Try.func79, Try.ntmps79
    go_wp2_with (go_at_call 104; with_reducible refine ca.mono ?_; rintro e w' ⟨rfl, rfl⟩)
    go_ret
    exact ⟨rfl, rfl⟩
theorem ref_Half (a : Int) (w : World) :
    Calls Try.prog 82 #[.int .i64 a] w fun e w' => e = .returned (.int .i64 (half a)) ∧ w = w' := by
  have ca := near_as a w
  have ba := asB_bd a
  have f : half a = if asB a = 9223372036854775807 then 9223372036854775807 else asB a / 2 := rfl
  rw [f]; clear f
  generalize asB a = x at *
  unfold Bd at ba
  by_cases h1 : x = 9223372036854775807
  · rw [if_pos h1]
    subst h1; clear ba
    go_enter Try.func82, Try.ntmps82
    go_wp2_with (go_at_call 76; with_reducible refine ca.mono ?_; rintro e w' ⟨rfl, rfl⟩)
    go_ret
    exact ⟨rfl, rfl⟩
  · have g1 : (x == 9223372036854775807) = false := beq_eq_false_iff_ne.2 h1
    rw [if_neg h1]
    have bx : -4611686018427387904 ≤ x := by omega
    have bx' : x ≤ 4611686018427387904 := by omega
    clear ba h1
    by_cases h2 : x < 0
    · have t : x.tmod 2 = 0 ∨ x.tmod 2 = -1 := by
        have h1 := Int.tmod_nonneg 2 (a := -x) (by omega)
        rw [Int.neg_tmod] at h1
        have h2 : (x.tmod 2).natAbs = x.natAbs % 2 := Int.natAbs_tmod x 2
        omega
      have q := Int.mul_tdiv_add_tmod x 2
      rcases t with t | t
      · have g3 : (x.tmod 2 != 0) = false := by rw [t]; rfl
        have e : x / 2 = x.tdiv 2 := by omega
        rw [e]; clear e q t
        go_enter Try.func82, Try.ntmps82
        go_wp2_with (go_at_call 76; with_reducible refine ca.mono ?_; rintro e w' ⟨rfl, rfl⟩)
        go_ret
        exact ⟨rfl, rfl⟩
      · have g3 : (x.tmod 2 != 0) = true := by rw [t]; rfl
        have e : x / 2 = x.tdiv 2 - 1 := by omega
        have l : -4611686018427387904 ≤ x.tdiv 2 := by omega
        have l' : x.tdiv 2 ≤ 0 := by omega
        rw [e]; clear e q t
        go_enter Try.func82, Try.ntmps82
        go_wp2_with (go_at_call 76; with_reducible refine ca.mono ?_; rintro e w' ⟨rfl, rfl⟩)
        go_ret
        exact ⟨rfl, rfl⟩
    · go_enter Try.func82, Try.ntmps82
      go_wp2_with (go_at_call 76; with_reducible refine ca.mono ?_; rintro e w' ⟨rfl, rfl⟩)
      go_ret
      exact ⟨rfl, rfl⟩
theorem bound_Even (a : Int) (w : World) :
    Calls Try.prog 134 #[.int .i64 a] w fun e w' => e = .returned (.int .i64 (even a)) ∧ w = w' := by
  have c := bound_Half a w
  have hb := half_bd a
  have hl : half a ≠ 9223372036854775807 → -4611686018427387904 ≤ 2 * half a ∧ 2 * half a ≤ 4611686018427387904 := by
    have := asB_bd a
    unfold half
    unfold Bd at this
    split <;> omega
  rw [even_half]
  generalize half a = x at *
  by_cases h1 : x = 9223372036854775807
  · rw [if_pos h1]
    subst h1; clear hb hl
    go_enter Try.func134, Try.ntmps134
    go_wp2_with (go_at_call 79; with_reducible refine c.mono ?_; rintro e w' ⟨rfl, rfl⟩)
    go_ret
    exact ⟨rfl, rfl⟩
  · have g1 : (x != 9223372036854775807) = true := by simpa using h1
    rw [if_neg h1]
    obtain ⟨b1, b2⟩ := hl h1
    clear hb hl h1
    go_enter Try.func134, Try.ntmps134
    go_wp2_with (go_at_call 79; with_reducible refine c.mono ?_; rintro e w' ⟨rfl, rfl⟩)
    go_ret
    exact ⟨rfl, rfl⟩
theorem ref_Even (a : Int) (w : World) :
    Calls Try.prog 106 #[.int .i64 a] w fun e w' => e = .returned (.int .i64 (even a)) ∧ w = w' := by
  have ca := near_as a w
  have c := ref_Half (asB a) w
  have hi := half_inf a
  rw [half_as] at c
  have hb := half_bd a
  have hl : half a ≠ 9223372036854775807 → -4611686018427387904 ≤ 2 * half a ∧ 2 * half a ≤ 4611686018427387904 := by
    have := asB_bd a
    unfold half
    unfold Bd at this
    split <;> omega
  rw [even_half]
  generalize half a = x at *
  generalize asB a = y at *
  by_cases h1 : x = 9223372036854775807
  · rw [if_pos h1]
    obtain rfl := hi.1 h1
    subst h1; clear hb hl hi
    go_enter Try.func106, Try.ntmps106
    go_wp2_with (first | (go_at_call 76; with_reducible refine ca.mono ?_; rintro e w' ⟨rfl, rfl⟩) | (go_at_call 82; with_reducible refine c.mono ?_; rintro e w' ⟨rfl, rfl⟩))
    go_ret
    exact ⟨rfl, rfl⟩
  · have g1 : (y == 9223372036854775807) = false := beq_eq_false_iff_ne.2 (fun k => h1 (hi.2 k))
    rw [if_neg h1]
    obtain ⟨b1, b2⟩ := hl h1
    clear hb hl h1 hi
    go_enter Try.func106, Try.ntmps106
    go_wp2_with (first | (go_at_call 76; with_reducible refine ca.mono ?_; rintro e w' ⟨rfl, rfl⟩) | (go_at_call 82; with_reducible refine c.mono ?_; rintro e w' ⟨rfl, rfl⟩))
    go_ret
    exact ⟨rfl, rfl⟩
theorem bound_Less (a b : Int) (w : World) :
    Calls Try.prog 65 #[.int .i64 a, .int .i64 b] w fun e w' => e = .returned (.int .i64 (less a b)) ∧ w = w' := by
  go_enter Try.func65, Try.ntmps65
  go_wp2_with (go_at_call 104; refine (bound_as _ _).mono ?_; rintro e w' ⟨rfl, rfl⟩)
  all_goals
    go_ret
    exact ret1_int (by unfold less; omega)
end Go.Proofs.Ytkogplnleiapfaa
