/- Walks: each function of the packages bound and gnomonref11 answers as the plain functions of the text Bnd say. -/
import Derived.Test.YtkgddgckilledaaNumW
import Derived.Test.YtkgddgckilledaaBnd
namespace Go.Proofs.Ytkgddgckilledaa
open Go.RowKit
open Gn
theorem bound_as (a : Int) (w : World) :
    Calls Try.prog 71 #[.int .i64 a] w fun e w' => e = .returned (.int .i64 (asB a)) ∧ w = w' := by
  by_cases h1 : a < -4611686018427387904 <;> by_cases h2 : 4611686018427387904 < a
  · omega
  all_goals
    go_enter Try.func71, Try.ntmps71
    go_wp2
    go_ret
    exact ret1_int (by unfold asB; repeat' split <;> omega)
theorem near_as (a : Int) (w : World) :
    Calls Try.prog 72 #[.int .i64 a] w fun e w' => e = .returned (.int .i64 (asB a)) ∧ w = w' := by
  by_cases h1 : a < -4611686018427387904 <;> by_cases h2 : 4611686018427387904 < a
  · omega
  all_goals
    go_enter Try.func72, Try.ntmps72
    go_wp2
    go_ret
    exact ret1_int (by unfold asB; repeat' split <;> omega)
theorem bound_Is (a : Int) (w : World) :
    Calls Try.prog 47 #[.int .i64 a] w fun e w' => e = .returned (.bool (isB a)) ∧ w = w' := by
  by_cases h1 : a = 9223372036854775807
  · subst h1
    go_enter Try.func47, Try.ntmps47
    go_wp2
    go_ret
    exact ret1_bool rfl
  · have g : (a == 9223372036854775807) = false := beq_eq_false_iff_ne.2 h1
    by_cases h2 : a < -4611686018427387904 <;> by_cases h3 : 4611686018427387904 < a
    · omega
    all_goals
      go_enter Try.func47, Try.ntmps47
      go_wp2
      go_ret
      exact ret1_bool (by unfold isB; rw [Bool.eq_iff_iff]; simp; omega)
theorem ref_Is (a : Int) (w : World) :
    Calls Try.prog 52 #[.int .i64 a] w fun e w' => e = .returned (.bool (isB a)) ∧ w = w' := by
  by_cases h1 : a = 9223372036854775807
  · subst h1
    go_enter Try.func52, Try.ntmps52
    go_wp2
    go_ret
    exact ret1_bool rfl
  · have g : (a == 9223372036854775807) = false := beq_eq_false_iff_ne.2 h1
    by_cases h2 : a < -4611686018427387904 <;> by_cases h3 : 4611686018427387904 < a
    · omega
    all_goals
      go_enter Try.func52, Try.ntmps52
      go_wp2
      go_ret
      exact ret1_bool (by unfold isB; rw [Bool.eq_iff_iff]; simp; omega)
theorem bound_Plus (a b : Int) (w : World) :
    Calls Try.prog 98 #[.int .i64 a, .int .i64 b] w fun e w' => e = .returned (.int .i64 (plus a b)) ∧ w = w' := by
  have ca := bound_as a w
  have cb := bound_as b w
  have ba := asB_bd a
  have bb := asB_bd b
  have f : plus a b = if asB a = 9223372036854775807 ∨ asB b = 9223372036854775807 then 9223372036854775807 else asB (asB a + asB b) := rfl
  rw [f]; clear f
  generalize asB a = x at *
  generalize asB b = y at *
  unfold Bd at ba bb
  by_cases h1 : x = 9223372036854775807
  · rw [if_pos (.inl h1)]
    subst h1; clear ba bb
    go_enter Try.func98, Try.ntmps98
    go_wp2_with (first | (go_at_call 71; first | (with_reducible refine ca.mono ?_; clear ca; rintro e w' ⟨rfl, rfl⟩) | (with_reducible refine cb.mono ?_; clear cb; rintro e w' ⟨rfl, rfl⟩)) | go_in)
    go_ret
    exact ⟨rfl, rfl⟩
  · have g1 : (x == 9223372036854775807) = false := beq_eq_false_iff_ne.2 h1
    by_cases h2 : y = 9223372036854775807
    · rw [if_pos (.inr h2)]
      subst h2; clear ba bb h1
      go_enter Try.func98, Try.ntmps98
      go_wp2_with (first | (go_at_call 71; first | (with_reducible refine ca.mono ?_; clear ca; rintro e w' ⟨rfl, rfl⟩) | (with_reducible refine cb.mono ?_; clear cb; rintro e w' ⟨rfl, rfl⟩)) | go_in)
      go_ret
      exact ⟨rfl, rfl⟩
    · have g2 : (y == 9223372036854775807) = false := beq_eq_false_iff_ne.2 h2
      rw [if_neg (by omega)]
      have bx : -4611686018427387904 ≤ x := by omega
      have bx' : x ≤ 4611686018427387904 := by omega
      have by' : -4611686018427387904 ≤ y := by omega
      have by'' : y ≤ 4611686018427387904 := by omega
      clear ba bb h1 h2
      by_cases h3 : 0 < x
      · by_cases h4 : 4611686018427387904 - x < y
        · have f : asB (x + y) = asB 4611686018427387905 := by unfold asB; repeat' split <;> omega
          rw [f]; clear f
          go_enter Try.func98, Try.ntmps98
          go_wp2_with (first | (go_at_call 71; first | (with_reducible refine ca.mono ?_; clear ca; rintro e w' ⟨rfl, rfl⟩) | (with_reducible refine cb.mono ?_; clear cb; rintro e w' ⟨rfl, rfl⟩) | (with_reducible refine (bound_as 4611686018427387905 _).mono ?_; rintro e w' ⟨rfl, rfl⟩)) | go_in)
          go_ret
          exact ⟨rfl, rfl⟩
        · go_enter Try.func98, Try.ntmps98
          go_wp2_with (first | (go_at_call 71; first | (with_reducible refine ca.mono ?_; clear ca; rintro e w' ⟨rfl, rfl⟩) | (with_reducible refine cb.mono ?_; clear cb; rintro e w' ⟨rfl, rfl⟩) | (with_reducible refine (bound_as (x + y) _).mono ?_; rintro e w' ⟨rfl, rfl⟩)) | go_in)
          go_ret
          exact ⟨rfl, rfl⟩
      · go_enter Try.func98, Try.ntmps98
        go_wp2_with (first | (go_at_call 71; first | (with_reducible refine ca.mono ?_; clear ca; rintro e w' ⟨rfl, rfl⟩) | (with_reducible refine cb.mono ?_; clear cb; rintro e w' ⟨rfl, rfl⟩) | (with_reducible refine (bound_as (x + y) _).mono ?_; rintro e w' ⟨rfl, rfl⟩)) | go_in)
        go_ret
        exact ⟨rfl, rfl⟩
end Go.Proofs.Ytkgddgckilledaa
namespace Go.Proofs.Ytkgddgckilledaa
open Go.RowKit
open Gn
theorem sat1_any (a : Int) (w : World) :
    Calls Try.prog 100 #[.int .i64 a] w fun e w' => e = .returned (.int .i64 (if isB a then 0 else 1)) ∧ w = w' := by
  have c := bound_Is a w
  rcases h : isB a with _ | _
  all_goals
    rw [h] at c
    go_enter Try.func100, Try.ntmps100
    go_wp2_with (go_at_call 47; refine c.mono ?_; rintro e w' ⟨rfl, rfl⟩)
    go_ret
    exact ⟨rfl, rfl⟩
theorem bound_Saturates (a b : Int) (w : World) :
    Calls Try.prog 97 #[.int .i64 a, .int .i64 b] w fun e w' => e = .returned (.bool (sat a b)) ∧ w = w' := by
  have ca := bound_as a w
  have cb := bound_as b w
  have ba := asB_bd a
  have bb := asB_bd b
  have f : sat a b = decide (asB a ≠ 9223372036854775807 ∧ asB b ≠ 9223372036854775807 ∧ ¬ (-4611686018427387904 ≤ asB a + asB b ∧ asB a + asB b ≤ 4611686018427387904)) := rfl
  rw [f]; clear f
  generalize asB a = x at *
  generalize asB b = y at *
  unfold Bd at ba bb
  by_cases h1 : x = 9223372036854775807
  · rw [decide_eq_false (by omega)]
    subst h1; clear ba bb
    go_enter Try.func97, Try.ntmps97
    go_wp2_with (first | (go_at_call 71; first | (with_reducible refine ca.mono ?_; clear ca; rintro e w' ⟨rfl, rfl⟩) | (with_reducible refine cb.mono ?_; clear cb; rintro e w' ⟨rfl, rfl⟩)) | go_in)
    go_ret
    exact ⟨rfl, rfl⟩
  · have g1 : (x == 9223372036854775807) = false := beq_eq_false_iff_ne.2 h1
    by_cases h2 : y = 9223372036854775807
    · rw [decide_eq_false (by omega)]
      subst h2; clear ba bb h1
      go_enter Try.func97, Try.ntmps97
      go_wp2_with (first | (go_at_call 71; first | (with_reducible refine ca.mono ?_; clear ca; rintro e w' ⟨rfl, rfl⟩) | (with_reducible refine cb.mono ?_; clear cb; rintro e w' ⟨rfl, rfl⟩)) | go_in)
      go_ret
      exact ⟨rfl, rfl⟩
    · have g2 : (y == 9223372036854775807) = false := beq_eq_false_iff_ne.2 h2
      have bx : -4611686018427387904 ≤ x := by omega
      have bx' : x ≤ 4611686018427387904 := by omega
      have by' : -4611686018427387904 ≤ y := by omega
      have by'' : y ≤ 4611686018427387904 := by omega
      have e0 : decide (x ≠ 9223372036854775807 ∧ y ≠ 9223372036854775807 ∧ ¬ (-4611686018427387904 ≤ x + y ∧ x + y ≤ 4611686018427387904)) = decide (x + y < -4611686018427387904 ∨ 4611686018427387904 < x + y) := by
        apply decide_eq_decide.2; omega
      rw [e0]; clear e0
      clear ba bb h1 h2
      by_cases h3 : 4611686018427387904 < x + y
      · rw [decide_eq_true (by omega)]
        have h4 : 0 < x := by omega
        have h5 : 4611686018427387904 - x < y := by omega
        have c := sat1_any 4611686018427387905 w
        rw [show (if isB 4611686018427387905 then 0 else 1 : Int) = 1 by decide] at c
        clear h3
        go_enter Try.func97, Try.ntmps97
        go_wp2_with (first | (go_at_call 71; first | (with_reducible refine ca.mono ?_; clear ca; rintro e w' ⟨rfl, rfl⟩) | (with_reducible refine cb.mono ?_; clear cb; rintro e w' ⟨rfl, rfl⟩)) | (go_at_call 100; with_reducible refine c.mono ?_; rintro e w' ⟨rfl, rfl⟩) | go_in)
        go_ret
        exact ⟨rfl, rfl⟩
      · have c := sat1_any (x + y) w
        by_cases h5 : x + y < -4611686018427387904
        · rw [decide_eq_true (by omega)]
          have h4 : ¬ 0 < x := by omega
          have e1 : isB (x + y) = false := by rw [Bool.eq_false_iff, Ne, isB_iff]; unfold Bd; omega
          rw [e1] at c; clear e1
          rw [show (if false = true then 0 else 1 : Int) = 1 by decide] at c
          go_enter Try.func97, Try.ntmps97
          go_wp2_with (first | (go_at_call 71; first | (with_reducible refine ca.mono ?_; clear ca; rintro e w' ⟨rfl, rfl⟩) | (with_reducible refine cb.mono ?_; clear cb; rintro e w' ⟨rfl, rfl⟩)) | (go_at_call 100; with_reducible refine c.mono ?_; rintro e w' ⟨rfl, rfl⟩) | go_in)
          go_ret
          exact ⟨rfl, rfl⟩
        · rw [decide_eq_false (by omega)]
          have e1 : isB (x + y) = true := by rw [isB_iff]; unfold Bd; omega
          rw [e1] at c; clear e1
          rw [show (if true = true then 0 else 1 : Int) = 0 by decide] at c
          by_cases h4 : 0 < x
          · have h6 : ¬ 4611686018427387904 - x < y := by omega
            go_enter Try.func97, Try.ntmps97
            go_wp2_with (first | (go_at_call 71; first | (with_reducible refine ca.mono ?_; clear ca; rintro e w' ⟨rfl, rfl⟩) | (with_reducible refine cb.mono ?_; clear cb; rintro e w' ⟨rfl, rfl⟩)) | (go_at_call 100; with_reducible refine c.mono ?_; rintro e w' ⟨rfl, rfl⟩) | go_in)
            go_ret
            exact ⟨rfl, rfl⟩
          · go_enter Try.func97, Try.ntmps97
            go_wp2_with (first | (go_at_call 71; first | (with_reducible refine ca.mono ?_; clear ca; rintro e w' ⟨rfl, rfl⟩) | (with_reducible refine cb.mono ?_; clear cb; rintro e w' ⟨rfl, rfl⟩)) | (go_at_call 100; with_reducible refine c.mono ?_; rintro e w' ⟨rfl, rfl⟩) | go_in)
            go_ret
            exact ⟨rfl, rfl⟩
theorem ref_Plus (a b : Int) (w : World) :
    Calls Try.prog 90 #[.int .i64 a, .int .i64 b] w fun e w' => e = .returned (.int .i64 (plus a b)) ∧ w = w' := by
  have ca := near_as a w
  have cb := near_as b w
  have ba := asB_bd a
  have bb := asB_bd b
  have f : plus a b = if asB a = 9223372036854775807 ∨ asB b = 9223372036854775807 then 9223372036854775807 else asB (asB a + asB b) := rfl
  rw [f]; clear f
  generalize asB a = x at *
  generalize asB b = y at *
  unfold Bd at ba bb
  by_cases h1 : x = 9223372036854775807
  · rw [if_pos (.inl h1)]
    subst h1; clear ba bb
    go_enter Try.func90, Try.ntmps90
    go_wp2_with (first | (go_at_call 72; first | (with_reducible refine ca.mono ?_; clear ca; rintro e w' ⟨rfl, rfl⟩) | (with_reducible refine cb.mono ?_; clear cb; rintro e w' ⟨rfl, rfl⟩)) | go_in)
    go_ret
    exact ⟨rfl, rfl⟩
  · have g1 : (x == 9223372036854775807) = false := beq_eq_false_iff_ne.2 h1
    by_cases h2 : y = 9223372036854775807
    · rw [if_pos (.inr h2)]
      subst h2; clear ba bb h1
      go_enter Try.func90, Try.ntmps90
      go_wp2_with (first | (go_at_call 72; first | (with_reducible refine ca.mono ?_; clear ca; rintro e w' ⟨rfl, rfl⟩) | (with_reducible refine cb.mono ?_; clear cb; rintro e w' ⟨rfl, rfl⟩)) | go_in)
      go_ret
      exact ⟨rfl, rfl⟩
    · have g2 : (y == 9223372036854775807) = false := beq_eq_false_iff_ne.2 h2
      rw [if_neg (by omega)]
      have bx : -4611686018427387904 ≤ x := by omega
      have bx' : x ≤ 4611686018427387904 := by omega
      have by' : -4611686018427387904 ≤ y := by omega
      have by'' : y ≤ 4611686018427387904 := by omega
      clear ba bb h1 h2
      by_cases h3 : x = 4611686018427387904
      · subst h3
        clear bx bx'
        by_cases h4 : y = 4611686018427387904
        · subst h4
          rw [show asB (4611686018427387904 + 4611686018427387904) = 9223372036854775807 by decide]
          go_enter Try.func90, Try.ntmps90
          go_wp2_with (first | (go_at_call 72; first | (with_reducible refine ca.mono ?_; clear ca; rintro e w' ⟨rfl, rfl⟩) | (with_reducible refine cb.mono ?_; clear cb; rintro e w' ⟨rfl, rfl⟩)) | go_in)
          go_ret
          exact ⟨rfl, rfl⟩
        · have g4 : (y == 4611686018427387904) = false := beq_eq_false_iff_ne.2 h4
          have b4 : y < 4611686018427387904 := by omega
          clear h4
          go_enter Try.func90, Try.ntmps90
          go_wp2_with (first | (go_at_call 72; first | (with_reducible refine ca.mono ?_; clear ca; rintro e w' ⟨rfl, rfl⟩) | (with_reducible refine cb.mono ?_; clear cb; rintro e w' ⟨rfl, rfl⟩) | (with_reducible refine (near_as _ _).mono ?_; rintro e w' ⟨rfl, rfl⟩)) | go_in)
          go_ret
          exact ⟨rfl, rfl⟩
      · have g3 : (x == 4611686018427387904) = false := beq_eq_false_iff_ne.2 h3
        have b4 : x < 4611686018427387904 := by omega
        clear h3
        go_enter Try.func90, Try.ntmps90
        go_wp2_with (first | (go_at_call 72; first | (with_reducible refine ca.mono ?_; clear ca; rintro e w' ⟨rfl, rfl⟩) | (with_reducible refine cb.mono ?_; clear cb; rintro e w' ⟨rfl, rfl⟩) | (with_reducible refine (near_as _ _).mono ?_; rintro e w' ⟨rfl, rfl⟩)) | go_in)
        go_ret
        exact ⟨rfl, rfl⟩
theorem ref_Saturates (a b : Int) (w : World) :
    Calls Try.prog 89 #[.int .i64 a, .int .i64 b] w fun e w' => e = .returned (.bool (sat a b)) ∧ w = w' := by
  have ca := near_as a w
  have cb := near_as b w
  have ba := asB_bd a
  have bb := asB_bd b
  have f : sat a b = decide (asB a ≠ 9223372036854775807 ∧ asB b ≠ 9223372036854775807 ∧ ¬ (-4611686018427387904 ≤ asB a + asB b ∧ asB a + asB b ≤ 4611686018427387904)) := rfl
  rw [f]; clear f
  generalize asB a = x at *
  generalize asB b = y at *
  unfold Bd at ba bb
  by_cases h1 : x = 9223372036854775807
  · rw [decide_eq_false (by omega)]
    subst h1; clear ba bb
    go_enter Try.func89, Try.ntmps89
    go_wp2_with (go_at_call 72; first | (with_reducible refine ca.mono ?_; clear ca; rintro e w' ⟨rfl, rfl⟩) | (with_reducible refine cb.mono ?_; clear cb; rintro e w' ⟨rfl, rfl⟩))
    go_ret
    exact ⟨rfl, rfl⟩
  · have g1 : (x == 9223372036854775807) = false := beq_eq_false_iff_ne.2 h1
    by_cases h2 : y = 9223372036854775807
    · rw [decide_eq_false (by omega)]
      subst h2; clear ba bb h1
      go_enter Try.func89, Try.ntmps89
      go_wp2_with (go_at_call 72; first | (with_reducible refine ca.mono ?_; clear ca; rintro e w' ⟨rfl, rfl⟩) | (with_reducible refine cb.mono ?_; clear cb; rintro e w' ⟨rfl, rfl⟩))
      go_ret
      exact ⟨rfl, rfl⟩
    · have g2 : (y == 9223372036854775807) = false := beq_eq_false_iff_ne.2 h2
      have bx : -4611686018427387904 ≤ x := by omega
      have bx' : x ≤ 4611686018427387904 := by omega
      have by' : -4611686018427387904 ≤ y := by omega
      have by'' : y ≤ 4611686018427387904 := by omega
      have e0 : decide (x ≠ 9223372036854775807 ∧ y ≠ 9223372036854775807 ∧ ¬ (-4611686018427387904 ≤ x + y ∧ x + y ≤ 4611686018427387904)) = decide (x + y < -4611686018427387904 ∨ 4611686018427387904 < x + y) := by
        apply decide_eq_decide.2; omega
      rw [e0]; clear e0
      clear ba bb h1 h2
      by_cases h6 : x = 4611686018427387904 ∧ y = 4611686018427387904
      · obtain ⟨rfl, rfl⟩ := h6
        go_enter Try.func89, Try.ntmps89
        go_wp2_with (go_at_call 72; first | (with_reducible refine ca.mono ?_; clear ca; rintro e w' ⟨rfl, rfl⟩) | (with_reducible refine cb.mono ?_; clear cb; rintro e w' ⟨rfl, rfl⟩))
        go_ret
        exact ⟨rfl, rfl⟩
      · have s : x + y < 9223372036854775808 := by omega
        have g6 : ((x == 4611686018427387904) = false) ∨ (x = 4611686018427387904 ∧ (y == 4611686018427387904) = false) := by
          by_cases h7 : x = 4611686018427387904
          · exact .inr ⟨h7, beq_eq_false_iff_ne.2 (by omega)⟩
          · exact .inl (beq_eq_false_iff_ne.2 h7)
        clear h6
        rcases g6 with g6 | ⟨rfl, g6⟩
        all_goals
          go_enter Try.func89, Try.ntmps89
          go_wp2_with (go_at_call 72; first | (with_reducible refine ca.mono ?_; clear ca; rintro e w' ⟨rfl, rfl⟩) | (with_reducible refine cb.mono ?_; clear cb; rintro e w' ⟨rfl, rfl⟩))
          all_goals
            go_ret
            exact ret1_bool (Bool.eq_iff_iff.2 (by simp <;> omega))
end Go.Proofs.Ytkgddgckilledaa
namespace Go.Proofs.Ytkgddgckilledaa
open Go.RowKit
open Gn
theorem bound_Half (a : Int) (w : World) :
    Calls Try.prog 95 #[.int .i64 a] w fun e w' => e = .returned (.int .i64 (half a)) ∧ w = w' := by
  have ca := bound_as a w
  have ba := asB_bd a
  have f : half a = if asB a = 9223372036854775807 then 9223372036854775807 else asB a / 2 := rfl
  rw [f]; clear f
  generalize asB a = x at *
  unfold Bd at ba
  by_cases h1 : x = 9223372036854775807
  · rw [if_pos h1]
    subst h1; clear ba
    go_enter Try.func95, Try.ntmps95
    go_wp2_with (go_at_call 71; with_reducible refine ca.mono ?_; rintro e w' ⟨rfl, rfl⟩)
    go_ret
    exact ⟨rfl, rfl⟩
  · have g1 : (x == 9223372036854775807) = false := beq_eq_false_iff_ne.2 h1
    rw [if_neg h1]
    have bx : -4611686018427387904 ≤ x := by omega
    have bx' : x ≤ 4611686018427387904 := by omega
    clear ba h1
    go_enter Try.func95, Try.ntmps95
    go_wp2_with (go_at_call 71; with_reducible refine ca.mono ?_; rintro e w' ⟨rfl, rfl⟩)
    go_ret
    exact ⟨rfl, rfl⟩
theorem ref_Half (a : Int) (w : World) :
    Calls Try.prog 77 #[.int .i64 a] w fun e w' => e = .returned (.int .i64 (half a)) ∧ w = w' := by
  have ca := near_as a w
  have ba := asB_bd a
  have f : half a = if asB a = 9223372036854775807 then 9223372036854775807 else asB a / 2 := rfl
  rw [f]; clear f
  generalize asB a = x at *
  unfold Bd at ba
  by_cases h1 : x = 9223372036854775807
  · rw [if_pos h1]
    subst h1; clear ba
    go_enter Try.func77, Try.ntmps77
    go_wp2_with (go_at_call 72; with_reducible refine ca.mono ?_; rintro e w' ⟨rfl, rfl⟩)
    go_ret
    exact ⟨rfl, rfl⟩
  · have g1 : (x == 9223372036854775807) = false := beq_eq_false_iff_ne.2 h1
    rw [if_neg h1]
    have bx : -4611686018427387904 ≤ x := by omega
    have bx' : x ≤ 4611686018427387904 := by omega
    clear ba h1
    by_cases h2 : x < 0
    · have t : x.tmod 2 = 0 ∨ x.tmod 2 = -1 := by
        have h1 := Int.tmod_nonneg 2 (a := -x) (by omega)
        rw [Int.neg_tmod] at h1
        have h2 : (x.tmod 2).natAbs = x.natAbs % 2 := Int.natAbs_tmod x 2
        omega
      have q := Int.mul_tdiv_add_tmod x 2
      rcases t with t | t
      · have g3 : (x.tmod 2 != 0) = false := by rw [t]; rfl
        have e : x / 2 = x.tdiv 2 := by omega
        rw [e]; clear e q t
        go_enter Try.func77, Try.ntmps77
        go_wp2_with (go_at_call 72; with_reducible refine ca.mono ?_; rintro e w' ⟨rfl, rfl⟩)
        go_ret
        exact ⟨rfl, rfl⟩
      · have g3 : (x.tmod 2 != 0) = true := by rw [t]; rfl
        have e : x / 2 = x.tdiv 2 - 1 := by omega
        have l : -4611686018427387904 ≤ x.tdiv 2 := by omega
        have l' : x.tdiv 2 ≤ 0 := by omega
        rw [e]; clear e q t
        go_enter Try.func77, Try.ntmps77
        go_wp2_with (go_at_call 72; with_reducible refine ca.mono ?_; rintro e w' ⟨rfl, rfl⟩)
        go_ret
        exact ⟨rfl, rfl⟩
    · go_enter Try.func77, Try.ntmps77
      go_wp2_with (go_at_call 72; with_reducible refine ca.mono ?_; rintro e w' ⟨rfl, rfl⟩)
      go_ret
      exact ⟨rfl, rfl⟩
theorem bound_Even (a : Int) (w : World) :
    Calls Try.prog 94 #[.int .i64 a] w fun e w' => e = .returned (.int .i64 (even a)) ∧ w = w' := by
  have c := bound_Half a w
  have hb := half_bd a
  have hl : half a ≠ 9223372036854775807 → -4611686018427387904 ≤ 2 * half a ∧ 2 * half a ≤ 4611686018427387904 := by
    have := asB_bd a
    unfold half
    unfold Bd at this
    split <;> omega
  rw [even_half]
  generalize half a = x at *
  by_cases h1 : x = 9223372036854775807
  · rw [if_pos h1]
    subst h1; clear hb hl
    go_enter Try.func94, Try.ntmps94
    go_wp2_with (go_at_call 95; with_reducible refine c.mono ?_; rintro e w' ⟨rfl, rfl⟩)
    go_ret
    exact ⟨rfl, rfl⟩
  · have g1 : (x != 9223372036854775807) = true := by simpa using h1
    rw [if_neg h1]
    obtain ⟨b1, b2⟩ := hl h1
    clear hb hl h1
    go_enter Try.func94, Try.ntmps94
    go_wp2_with (go_at_call 95; with_reducible refine c.mono ?_; rintro e w' ⟨rfl, rfl⟩)
    go_ret
    exact ⟨rfl, rfl⟩
theorem ref_Even (a : Int) (w : World) :
    Calls Try.prog 76 #[.int .i64 a] w fun e w' => e = .returned (.int .i64 (even a)) ∧ w = w' := by
  have ca := near_as a w
  have c := ref_Half (asB a) w
  have hi := half_inf a
  rw [half_as] at c
  have hb := half_bd a
  have hl : half a ≠ 9223372036854775807 → -4611686018427387904 ≤ 2 * half a ∧ 2 * half a ≤ 4611686018427387904 := by
    have := asB_bd a
    unfold half
    unfold Bd at this
    split <;> omega
  rw [even_half]
  generalize half a = x at *
  generalize asB a = y at *
  by_cases h1 : x = 9223372036854775807
  · rw [if_pos h1]
    obtain rfl := hi.1 h1
    subst h1; clear hb hl hi
    go_enter Try.func76, Try.ntmps76
    go_wp2_with (first | (go_at_call 72; with_reducible refine ca.mono ?_; rintro e w' ⟨rfl, rfl⟩) | (go_at_call 77; with_reducible refine c.mono ?_; rintro e w' ⟨rfl, rfl⟩))
    go_ret
    exact ⟨rfl, rfl⟩
  · have g1 : (y == 9223372036854775807) = false := beq_eq_false_iff_ne.2 (fun k => h1 (hi.2 k))
    rw [if_neg h1]
    obtain ⟨b1, b2⟩ := hl h1
    clear hb hl h1 hi
    go_enter Try.func76, Try.ntmps76
    go_wp2_with (first | (go_at_call 72; with_reducible refine ca.mono ?_; rintro e w' ⟨rfl, rfl⟩) | (go_at_call 77; with_reducible refine c.mono ?_; rintro e w' ⟨rfl, rfl⟩))
    go_ret
    exact ⟨rfl, rfl⟩
theorem bound_Less (a b : Int) (w : World) :
    Calls Try.prog 50 #[.int .i64 a, .int .i64 b] w fun e w' => e = .returned (.int .i64 (less a b)) ∧ w = w' := by
  go_enter Try.func50, Try.ntmps50
  go_wp2_with (go_at_call 71; refine (bound_as _ _).mono ?_; rintro e w' ⟨rfl, rfl⟩)
  all_goals
    go_ret
    exact ret1_int (by unfold less; omega)
end Go.Proofs.Ytkgddgckilledaa
