/- Walks: each function of the packages bound and gnomonref11 answers as the plain functions of the text Bnd say. -/
import Derived.Test.YtkogplnleiapfaaNumW
import Derived.Test.YtkogplnleiapfaaBnd
namespace Go.Proofs.Ytkogplnleiapfaa
open Go.RowKit
open Gn
theorem bound_as (a : Int) (w : World) :
    Calls Try.prog 104 #[.int .i64 a] w fun e w' => e = .returned (.int .i64 (asB a)) ∧ w = w' := by
  by_cases h1 : a < -4611686018427387904 <;> by_cases h2 : 4611686018427387904 < a
  · omega
  all_goals
    go_enter Try.func104, Try.ntmps104
    go_wp2
    go_ret
    exact ret1_int (by unfold asB; repeat' split <;> omega)
theorem near_as (a : Int) (w : World) :
    Calls Try.prog 76 #[.int .i64 a] w fun e w' => e = .returned (.int .i64 (asB a)) ∧ w = w' := by
  by_cases h1 : a < -4611686018427387904 <;> by_cases h2 : 4611686018427387904 < a
  · omega
  all_goals
    go_enter Try.func76, Try.ntmps76
    go_wp2
    go_ret
    exact ret1_int (by unfold asB; repeat' split <;> omega)
theorem bound_Is (a : Int) (w : World) :
    Calls Try.prog 107 #[.int .i64 a] w fun e w' => e = .returned (.bool (isB a)) ∧ w = w' := by
  by_cases h1 : a = 9223372036854775807
  · subst h1
    go_enter Try.func107, Try.ntmps107
    go_wp2
    go_ret
    exact ret1_bool rfl
  · have g : (a == 9223372036854775807) = false := beq_eq_false_iff_ne.2 h1
    by_cases h2 : a < -4611686018427387904 <;> by_cases h3 : 4611686018427387904 < a
    · omega
    all_goals
      go_enter Try.func107, Try.ntmps107
      go_wp2
      go_ret
      exact ret1_bool (by unfold isB; rw [Bool.eq_iff_iff]; simp; omega)
theorem ref_Is (a : Int) (w : World) :
    Calls Try.prog 72 #[.int .i64 a] w fun e w' => e = .returned (.bool (isB a)) ∧ w = w' := by
  by_cases h1 : a = 9223372036854775807
  · subst h1
    go_enter Try.func72, Try.ntmps72
    go_wp2
    go_ret
    exact ret1_bool rfl
  · have g : (a == 9223372036854775807) = false := beq_eq_false_iff_ne.2 h1
    by_cases h2 : a < -4611686018427387904 <;> by_cases h3 : 4611686018427387904 < a
    · omega
    all_goals
      go_enter Try.func72, Try.ntmps72
      go_wp2
      go_ret
      exact ret1_bool (by unfold isB; rw [Bool.eq_iff_iff]; simp; omega)
theorem bound_Plus (a b : Int) (w : World) :
    Calls Try.prog 137 #[.int .i64 a, .int .i64 b] w fun e w' => e = .returned (.int .i64 (plus a b)) ∧ w = w' := by
  have ca := bound_as a w
  have cb := bound_as b w
  have ba := asB_bd a
  have bb := asB_bd b
  have f : plus a b = if asB a = 9223372036854775807 ∨ asB b = 9223372036854775807 then 9223372036854775807 else asB (asB a + asB b) := rfl
  rw [f]; clear f
  generalize asB a = x at *
  generalize asB b = y at *
  unfold Bd at ba bb
  by_cases h1 : x = 9223372036854775807
  · rw [if_pos (.inl h1)]
    subst h1; clear ba bb
    go_enter Try.func137, Try.ntmps137
    go_wp2_with (first | (go_at_call 104; first | (with_reducible refine ca.mono ?_; clear ca; rintro e w' ⟨rfl, rfl⟩) | (with_reducible refine cb.mono ?_; clear cb; rintro e w' ⟨rfl, rfl⟩)) | go_in)
    go_ret
    exact ⟨rfl, rfl⟩
  · have g1 : (x == 9223372036854775807) = false := beq_eq_false_iff_ne.2 h1
    by_cases h2 : y = 9223372036854775807
    · rw [if_pos (.inr h2)]
      subst h2; clear ba bb h1
      go_enter Try.func137, Try.ntmps137
      go_wp2_with (first | (go_at_call 104; first | (with_reducible refine ca.mono ?_; clear ca; rintro e w' ⟨rfl, rfl⟩) | (with_reducible refine cb.mono ?_; clear cb; rintro e w' ⟨rfl, rfl⟩)) | go_in)
      go_ret
      exact ⟨rfl, rfl⟩
    · have g2 : (y == 9223372036854775807) = false := beq_eq_false_iff_ne.2 h2
      rw [if_neg (by omega)]
      have bx : -4611686018427387904 ≤ x := by omega
      have bx' : x ≤ 4611686018427387904 := by omega
      have by' : -4611686018427387904 ≤ y := by omega
      have by'' : y ≤ 4611686018427387904 := by omega
      clear ba bb h1 h2
      by_cases h3 : 0 < x
      · by_cases h4 : 4611686018427387904 - x < y
        · have f : asB (x + y) = asB 4611686018427387905 := by unfold asB; repeat' split <;> omega
          rw [f]; clear f
          go_enter Try.func137, Try.ntmps137
          go_wp2_with (first | (go_at_call 104; first | (with_reducible refine ca.mono ?_; clear ca; rintro e w' ⟨rfl, rfl⟩) | (with_reducible refine cb.mono ?_; clear cb; rintro e w' ⟨rfl, rfl⟩) | (with_reducible refine (bound_as 4611686018427387905 _).mono ?_; rintro e w' ⟨rfl, rfl⟩)) | go_in)
          go_ret
          exact ⟨rfl, rfl⟩
        · go_enter Try.func137, Try.ntmps137
          go_wp2_with (first | (go_at_call 104; first | (with_reducible refine ca.mono ?_; clear ca; rintro e w' ⟨rfl, rfl⟩) | (with_reducible refine cb.mono ?_; clear cb; rintro e w' ⟨rfl, rfl⟩) | (with_reducible refine (bound_as (x + y) _).mono ?_; rintro e w' ⟨rfl, rfl⟩)) | go_in)
          go_ret
          exact ⟨rfl, rfl⟩
      · go_enter Try.func137, Try.ntmps137
        go_wp2_with (first | (go_at_call 104; first | (with_reducible refine ca.mono ?_; clear ca; rintro e w' ⟨rfl, rfl⟩) | (with_reducible refine cb.mono ?_; clear cb; rintro e w' ⟨rfl, rfl⟩) | (with_reducible refine (bound_as (x + y) _).mono ?_; rintro e w' ⟨rfl, rfl⟩)) | go_in)
        go_ret
        exact ⟨rfl, rfl⟩
end Go.Proofs.Ytkogplnleiapfaa
