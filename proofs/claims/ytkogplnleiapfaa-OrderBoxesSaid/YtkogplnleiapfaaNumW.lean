/- Walks: each function of the packages num and gnomonref7 answers as the plain functions of the text Num say. -/
import Derived.Test.YtkogplnleiapfaaProg
import Derived.Test.YtkogplnleiapfaaNum
import Derived.WalkKit
import Derived.WalkSpells
namespace Go.Proofs.Ytkogplnleiapfaa
open Go.RowKit
open Gn
theorem ret1_int {k : IntKind} {x x' : Int} {w : World} (h1 : x = x') : (Ending.returned (.int k x) = .returned (.int k x')) ∧ w = w := by subst h1; exact ⟨rfl, rfl⟩
theorem ret1_bool {x x' : Bool} {w : World} (h1 : x = x') : (Ending.returned (.bool x) = .returned (.bool x')) ∧ w = w := by subst h1; exact ⟨rfl, rfl⟩
theorem ret2_int {k l : IntKind} {x y x' y' : Int} {w : World} (h1 : x = x') (h2 : y = y') : (Ending.returned (.tuple #[.int k x, .int l y]) = .returned (.tuple #[.int k x', .int l y'])) ∧ w = w := by subst h1 h2; exact ⟨rfl, rfl⟩

theorem num_Add (a b : Int) (w : World) (ha : I64 a) (hb : I64 b) :
    Calls Try.prog 56 #[.int .i64 a, .int .i64 b] w fun e w' => e = .returned (.tuple #[.int .i64 (fitV (a + b)), .int .i64 (fitW (a + b))]) ∧ w = w' := by
  obtain ⟨ha1, ha2⟩ := ha
  obtain ⟨hb1, hb2⟩ := hb
  by_cases h1 : a < 0 <;> by_cases h2 : b < 0
  all_goals
    go_enter Try.func56, Try.ntmps56
    go_wp2
    all_goals
      go_ret2
      refine ret2_int ?_ ?_
      all_goals
        simp only [Bool.not_eq_true', Bool.not_eq_false', decide_eq_true_eq, decide_eq_false_iff_not, fitV, fitW, I64, wrap64] at *
        first | omega | (split <;> omega)
theorem num_Sub (a b : Int) (w : World) (ha : I64 a) (hb : I64 b) :
    Calls Try.prog 57 #[.int .i64 a, .int .i64 b] w fun e w' => e = .returned (.tuple #[.int .i64 (fitV (a - b)), .int .i64 (fitW (a - b))]) ∧ w = w' := by
  obtain ⟨ha1, ha2⟩ := ha
  obtain ⟨hb1, hb2⟩ := hb
  by_cases h1 : a < 0 <;> by_cases h2 : b < 0
  all_goals
    go_enter Try.func57, Try.ntmps57
    go_wp2
    all_goals
      go_ret2
      refine ret2_int ?_ ?_
      all_goals
        simp only [Bool.not_eq_true', Bool.not_eq_false', decide_eq_true_eq, decide_eq_false_iff_not, fitV, fitW, I64, wrap64] at *
        first | omega | (split <;> omega)
theorem num_divides (a b : Int) (w : World) :
    Calls Try.prog 101 #[.int .i64 a, .int .i64 b] w fun e w' => e = .returned (.int .i64 (divW a b)) ∧ w = w' := by
  by_cases h1 : b = 0
  · have g1 : (b == 0) = true := by simpa using h1
    have f : divW a b = 2 := by simp [divW, h1]
    rw [f]
    clear f h1
    go_enter Try.func101, Try.ntmps101
    go_wp2
    go_ret
    exact ⟨rfl, rfl⟩
  · have g1 : (b == 0) = false := by simpa using h1
    by_cases h2 : a = -9223372036854775808
    · by_cases h3 : b = -1
      · have f : divW a b = 1 := by simp [divW, h2, h3]
        rw [f, h2, h3]
        clear f h1 h2 g1 h3
        go_enter Try.func101, Try.ntmps101
        go_wp2
        go_ret
        exact ⟨rfl, rfl⟩
      · have f : divW a b = 0 := by simp [divW, h2, h3, h1]
        have g3 : (b == -1) = false := by simpa using h3
        rw [f, h2]
        clear f h1 h2 h3
        go_enter Try.func101, Try.ntmps101
        go_wp2
        go_ret
        exact ⟨rfl, rfl⟩
    · have f : divW a b = 0 := by simp [divW, h2, h1]
      have g3 : (a == -9223372036854775808) = false := by simpa using h2
      rw [f]
      clear f h1 h2
      go_enter Try.func101, Try.ntmps101
      go_wp2
      go_ret
      exact ⟨rfl, rfl⟩
theorem num_Div (a b : Int) (w : World) (ha : I64 a) :
    Calls Try.prog 59 #[.int .i64 a, .int .i64 b] w fun e w' => e = .returned (.tuple #[.int .i64 (divV a b), .int .i64 (divW a b)]) ∧ w = w' := by
  have c := num_divides a b w
  rcases divW_cases a b with ⟨h, h1⟩ | ⟨h, h1, h2⟩ | ⟨h, h1, h2⟩
  · have f : divV a b = 0 := by simp [divV, h]
    rw [h] at c ⊢; rw [f]
    clear f h h1
    go_enter Try.func59, Try.ntmps59
    go_wp2_with (go_at_call 101; refine c.mono ?_; rintro e w' ⟨rfl, rfl⟩)
    go_ret2
    exact ⟨rfl, rfl⟩
  · have f : divV a b = 0 := by simp [divV, h]
    rw [h] at c ⊢; rw [f]
    clear f h h1 h2
    go_enter Try.func59, Try.ntmps59
    go_wp2_with (go_at_call 101; refine c.mono ?_; rintro e w' ⟨rfl, rfl⟩)
    go_ret2
    exact ⟨rfl, rfl⟩
  · have f : divV a b = a.tdiv b := by simp [divV, h]
    have t := wrap64_eq (tdiv_i64 ha h1 h2)
    rw [h] at c ⊢; rw [f, ← t]
    clear f h t
    have g : (b == 0) = false := by simpa using h1
    go_enter Try.func59, Try.ntmps59
    go_wp2_with (go_at_call 101; refine c.mono ?_; rintro e w' ⟨rfl, rfl⟩)
    go_ret2
    exact ⟨rfl, rfl⟩
theorem num_Rem (a b : Int) (w : World) :
    Calls Try.prog 60 #[.int .i64 a, .int .i64 b] w fun e w' => e = .returned (.tuple #[.int .i64 (remV a b), .int .i64 (divW a b)]) ∧ w = w' := by
  have c := num_divides a b w
  rcases divW_cases a b with ⟨h, h1⟩ | ⟨h, h1, h2⟩ | ⟨h, h1, h2⟩
  · have f : remV a b = 0 := by simp [remV, h]
    rw [h] at c ⊢; rw [f]
    clear f h h1
    go_enter Try.func60, Try.ntmps60
    go_wp2_with (go_at_call 101; refine c.mono ?_; rintro e w' ⟨rfl, rfl⟩)
    go_ret2
    exact ⟨rfl, rfl⟩
  · have f : remV a b = 0 := by simp [remV, h]
    rw [h] at c ⊢; rw [f]
    clear f h h1 h2
    go_enter Try.func60, Try.ntmps60
    go_wp2_with (go_at_call 101; refine c.mono ?_; rintro e w' ⟨rfl, rfl⟩)
    go_ret2
    exact ⟨rfl, rfl⟩
  · have f : remV a b = a.tmod b := by simp [remV, h]
    rw [h] at c ⊢; rw [f]
    clear f h
    have g : (b == 0) = false := by simpa using h1
    go_enter Try.func60, Try.ntmps60
    go_wp2_with (go_at_call 101; refine c.mono ?_; rintro e w' ⟨rfl, rfl⟩)
    go_ret2
    exact ⟨rfl, rfl⟩
end Go.Proofs.Ytkogplnleiapfaa
