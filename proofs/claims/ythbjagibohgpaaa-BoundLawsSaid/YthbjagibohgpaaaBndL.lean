/- The walks of the three statements on bounds (layer 11), by the contracts of the functions that they call. -/
import Derived.Test.YthbjagibohgpaaaBndH
namespace Go.Proofs.Ythbjagibohgpaaa
open Go.RowKit
open Gn
theorem bound_known (w : World) : Calls Try.prog 25 #[] w fun e w' => e = .returned (.bool true) ∧ w = w' := by
  have e1 : plus 4611686018427387904 1 = 9223372036854775807 := by decide
  have e2 : plus (-4611686018427387904) (-1) = -4611686018427387904 := by decide
  have e3 : half (-3) = -2 := by decide
  have e4 : even 5 = 4 := by decide
  have e5 : less 3 2 = 2 := by decide
  have e6 : isB 5 = true := by decide
  go_enter Try.func25, Try.ntmps25
  go_wp2_with (first | (go_at_call 26; with_reducible refine (bound_Plus _ _ _).mono ?_; rintro e w' ⟨rfl, rfl⟩) | (go_at_call 27; with_reducible refine (bound_Is _ _).mono ?_; rintro e w' ⟨rfl, rfl⟩) | (go_at_call 28; with_reducible refine (bound_Half _ _).mono ?_; rintro e w' ⟨rfl, rfl⟩) | (go_at_call 29; with_reducible refine (bound_Even _ _).mono ?_; rintro e w' ⟨rfl, rfl⟩) | (go_at_call 30; with_reducible refine (bound_Less _ _ _).mono ?_; rintro e w' ⟨rfl, rfl⟩) | (go_at_call 31; with_reducible refine (bound_Saturates _ _ _).mono ?_; rintro e w' ⟨rfl, rfl⟩) | (go_at_call 36; with_reducible refine (bound_Twice _ _).mono ?_; rintro e w' ⟨rfl, rfl⟩))
  go_ret
  exact ⟨rfl, rfl⟩
theorem law_BoundExact (a b : Int) (w : World) :
    Calls Try.prog 6 #[.int .i64 a, .int .i64 b] w fun e w' => e = .returned (.bool true) ∧ w = w' := by
  go_enter Try.func6, Try.ntmps6
  go_wp2_with (first | (go_at_call 26; with_reducible refine (bound_Plus _ _ _).mono ?_; rintro e w' ⟨rfl, rfl⟩) | (go_at_call 27; with_reducible refine (bound_Is _ _).mono ?_; rintro e w' ⟨rfl, rfl⟩) | (go_at_call 28; with_reducible refine (bound_Half _ _).mono ?_; rintro e w' ⟨rfl, rfl⟩) | (go_at_call 29; with_reducible refine (bound_Even _ _).mono ?_; rintro e w' ⟨rfl, rfl⟩) | (go_at_call 30; with_reducible refine (bound_Less _ _ _).mono ?_; rintro e w' ⟨rfl, rfl⟩) | (go_at_call 31; with_reducible refine (bound_Saturates _ _ _).mono ?_; rintro e w' ⟨rfl, rfl⟩) | (go_at_call 36; with_reducible refine (bound_Twice _ _).mono ?_; rintro e w' ⟨rfl, rfl⟩) | (go_at_call 32; with_reducible refine (ref_Is _ _).mono ?_; rintro e w' ⟨rfl, rfl⟩) | (go_at_call 33; with_reducible refine (ref_Plus _ _ _).mono ?_; rintro e w' ⟨rfl, rfl⟩) | (go_at_call 34; with_reducible refine (ref_Saturates _ _ _).mono ?_; rintro e w' ⟨rfl, rfl⟩) | (go_at_call 35; with_reducible refine (ref_Half _ _).mono ?_; rintro e w' ⟨rfl, rfl⟩) | (go_at_call 37; with_reducible refine (ref_Twice _ _).mono ?_; rintro e w' ⟨rfl, rfl⟩) | (go_at_call 38; with_reducible refine (ref_Even _ _).mono ?_; rintro e w' ⟨rfl, rfl⟩) | (go_at_call 39; with_reducible refine (ref_Less _ _ _).mono ?_; rintro e w' ⟨rfl, rfl⟩) | (go_at_call 25; with_reducible refine (bound_known _).mono ?_; rintro e w' ⟨rfl, rfl⟩))
  go_ret
  exact ⟨rfl, rfl⟩
theorem law_BoundHalves (a : Int) (w : World) :
    Calls Try.prog 7 #[.int .i64 a] w fun e w' => e = .returned (.bool true) ∧ w = w' := by
  have f1 := twice_half a
  have f2 : ¬ less a 9223372036854775807 < even a := Int.not_lt.2 (even_le a)
  rcases h : isB a with _ | _
  · go_enter Try.func7, Try.ntmps7
    go_wp2_with (first | (go_at_call 26; with_reducible refine (bound_Plus _ _ _).mono ?_; rintro e w' ⟨rfl, rfl⟩) | (go_at_call 27; with_reducible refine (bound_Is _ _).mono ?_; rintro e w' ⟨rfl, rfl⟩) | (go_at_call 28; with_reducible refine (bound_Half _ _).mono ?_; rintro e w' ⟨rfl, rfl⟩) | (go_at_call 29; with_reducible refine (bound_Even _ _).mono ?_; rintro e w' ⟨rfl, rfl⟩) | (go_at_call 30; with_reducible refine (bound_Less _ _ _).mono ?_; rintro e w' ⟨rfl, rfl⟩) | (go_at_call 31; with_reducible refine (bound_Saturates _ _ _).mono ?_; rintro e w' ⟨rfl, rfl⟩) | (go_at_call 36; with_reducible refine (bound_Twice _ _).mono ?_; rintro e w' ⟨rfl, rfl⟩) | (go_at_call 25; with_reducible refine (bound_known _).mono ?_; rintro e w' ⟨rfl, rfl⟩))
    go_ret
    exact ⟨rfl, rfl⟩
  · rcases h2 : sat a a with _ | _
    · have f3 := half_twice ((isB_iff a).1 h) h2
      go_enter Try.func7, Try.ntmps7
      go_wp2_with (first | (go_at_call 26; with_reducible refine (bound_Plus _ _ _).mono ?_; rintro e w' ⟨rfl, rfl⟩) | (go_at_call 27; with_reducible refine (bound_Is _ _).mono ?_; rintro e w' ⟨rfl, rfl⟩) | (go_at_call 28; with_reducible refine (bound_Half _ _).mono ?_; rintro e w' ⟨rfl, rfl⟩) | (go_at_call 29; with_reducible refine (bound_Even _ _).mono ?_; rintro e w' ⟨rfl, rfl⟩) | (go_at_call 30; with_reducible refine (bound_Less _ _ _).mono ?_; rintro e w' ⟨rfl, rfl⟩) | (go_at_call 31; with_reducible refine (bound_Saturates _ _ _).mono ?_; rintro e w' ⟨rfl, rfl⟩) | (go_at_call 36; with_reducible refine (bound_Twice _ _).mono ?_; rintro e w' ⟨rfl, rfl⟩) | (go_at_call 25; with_reducible refine (bound_known _).mono ?_; rintro e w' ⟨rfl, rfl⟩))
      go_ret
      exact ⟨rfl, rfl⟩
    · go_enter Try.func7, Try.ntmps7
      go_wp2_with (first | (go_at_call 26; with_reducible refine (bound_Plus _ _ _).mono ?_; rintro e w' ⟨rfl, rfl⟩) | (go_at_call 27; with_reducible refine (bound_Is _ _).mono ?_; rintro e w' ⟨rfl, rfl⟩) | (go_at_call 28; with_reducible refine (bound_Half _ _).mono ?_; rintro e w' ⟨rfl, rfl⟩) | (go_at_call 29; with_reducible refine (bound_Even _ _).mono ?_; rintro e w' ⟨rfl, rfl⟩) | (go_at_call 30; with_reducible refine (bound_Less _ _ _).mono ?_; rintro e w' ⟨rfl, rfl⟩) | (go_at_call 31; with_reducible refine (bound_Saturates _ _ _).mono ?_; rintro e w' ⟨rfl, rfl⟩) | (go_at_call 36; with_reducible refine (bound_Twice _ _).mono ?_; rintro e w' ⟨rfl, rfl⟩) | (go_at_call 25; with_reducible refine (bound_known _).mono ?_; rintro e w' ⟨rfl, rfl⟩))
      go_ret
      exact ⟨rfl, rfl⟩
theorem law_BoundLaws (a b c : Int) (hc : I64 c) (w : World) :
    Calls Try.prog 5 #[.int .i64 a, .int .i64 b, .int .i64 c] w fun e w' => e = .returned (.bool true) ∧ w = w' := by
  have g1 : isB (plus a b) = true := (isB_iff _).2 (plus_bd _ _)
  have g2 : isB (half a) = true := (isB_iff _).2 (half_bd _)
  have g3 : isB (even a) = true := (isB_iff _).2 (even_bd _)
  have g4 : isB (less a b) = true := (isB_iff _).2 (less_bd _ _)
  have g5 := plus_comm b a
  have g6 : a ≤ c → ¬ plus c b < plus a b := fun h => Int.not_lt.2 (plus_mono b h hc)
  have g7 : sat a b = false → sat b c = false → sat (plus a b) c = false → sat a (plus b c) = false → plus (plus a b) c = plus a (plus b c) := plus_assoc
  by_cases h0 : a ≤ c
  all_goals
    try (replace g6 := g6 h0)
    rcases h1 : sat a b with _ | _
    · rcases h2 : sat b c with _ | _
      · rcases h3 : sat (plus a b) c with _ | _
        · rcases h4 : sat a (plus b c) with _ | _
          · replace g7 := g7 h1 h2 h3 h4
            go_enter Try.func5, Try.ntmps5
            go_wp2_with (first | (go_at_call 26; with_reducible refine (bound_Plus _ _ _).mono ?_; rintro e w' ⟨rfl, rfl⟩) | (go_at_call 27; with_reducible refine (bound_Is _ _).mono ?_; rintro e w' ⟨rfl, rfl⟩) | (go_at_call 28; with_reducible refine (bound_Half _ _).mono ?_; rintro e w' ⟨rfl, rfl⟩) | (go_at_call 29; with_reducible refine (bound_Even _ _).mono ?_; rintro e w' ⟨rfl, rfl⟩) | (go_at_call 30; with_reducible refine (bound_Less _ _ _).mono ?_; rintro e w' ⟨rfl, rfl⟩) | (go_at_call 31; with_reducible refine (bound_Saturates _ _ _).mono ?_; rintro e w' ⟨rfl, rfl⟩) | (go_at_call 36; with_reducible refine (bound_Twice _ _).mono ?_; rintro e w' ⟨rfl, rfl⟩) | (go_at_call 25; with_reducible refine (bound_known _).mono ?_; rintro e w' ⟨rfl, rfl⟩))
            go_ret
            exact ⟨rfl, rfl⟩
          · clear g7
            go_enter Try.func5, Try.ntmps5
            go_wp2_with (first | (go_at_call 26; with_reducible refine (bound_Plus _ _ _).mono ?_; rintro e w' ⟨rfl, rfl⟩) | (go_at_call 27; with_reducible refine (bound_Is _ _).mono ?_; rintro e w' ⟨rfl, rfl⟩) | (go_at_call 28; with_reducible refine (bound_Half _ _).mono ?_; rintro e w' ⟨rfl, rfl⟩) | (go_at_call 29; with_reducible refine (bound_Even _ _).mono ?_; rintro e w' ⟨rfl, rfl⟩) | (go_at_call 30; with_reducible refine (bound_Less _ _ _).mono ?_; rintro e w' ⟨rfl, rfl⟩) | (go_at_call 31; with_reducible refine (bound_Saturates _ _ _).mono ?_; rintro e w' ⟨rfl, rfl⟩) | (go_at_call 36; with_reducible refine (bound_Twice _ _).mono ?_; rintro e w' ⟨rfl, rfl⟩) | (go_at_call 25; with_reducible refine (bound_known _).mono ?_; rintro e w' ⟨rfl, rfl⟩))
            go_ret
            exact ⟨rfl, rfl⟩
        · clear g7
          go_enter Try.func5, Try.ntmps5
          go_wp2_with (first | (go_at_call 26; with_reducible refine (bound_Plus _ _ _).mono ?_; rintro e w' ⟨rfl, rfl⟩) | (go_at_call 27; with_reducible refine (bound_Is _ _).mono ?_; rintro e w' ⟨rfl, rfl⟩) | (go_at_call 28; with_reducible refine (bound_Half _ _).mono ?_; rintro e w' ⟨rfl, rfl⟩) | (go_at_call 29; with_reducible refine (bound_Even _ _).mono ?_; rintro e w' ⟨rfl, rfl⟩) | (go_at_call 30; with_reducible refine (bound_Less _ _ _).mono ?_; rintro e w' ⟨rfl, rfl⟩) | (go_at_call 31; with_reducible refine (bound_Saturates _ _ _).mono ?_; rintro e w' ⟨rfl, rfl⟩) | (go_at_call 36; with_reducible refine (bound_Twice _ _).mono ?_; rintro e w' ⟨rfl, rfl⟩) | (go_at_call 25; with_reducible refine (bound_known _).mono ?_; rintro e w' ⟨rfl, rfl⟩))
          go_ret
          exact ⟨rfl, rfl⟩
      · clear g7
        go_enter Try.func5, Try.ntmps5
        go_wp2_with (first | (go_at_call 26; with_reducible refine (bound_Plus _ _ _).mono ?_; rintro e w' ⟨rfl, rfl⟩) | (go_at_call 27; with_reducible refine (bound_Is _ _).mono ?_; rintro e w' ⟨rfl, rfl⟩) | (go_at_call 28; with_reducible refine (bound_Half _ _).mono ?_; rintro e w' ⟨rfl, rfl⟩) | (go_at_call 29; with_reducible refine (bound_Even _ _).mono ?_; rintro e w' ⟨rfl, rfl⟩) | (go_at_call 30; with_reducible refine (bound_Less _ _ _).mono ?_; rintro e w' ⟨rfl, rfl⟩) | (go_at_call 31; with_reducible refine (bound_Saturates _ _ _).mono ?_; rintro e w' ⟨rfl, rfl⟩) | (go_at_call 36; with_reducible refine (bound_Twice _ _).mono ?_; rintro e w' ⟨rfl, rfl⟩) | (go_at_call 25; with_reducible refine (bound_known _).mono ?_; rintro e w' ⟨rfl, rfl⟩))
        go_ret
        exact ⟨rfl, rfl⟩
    · clear g7
      go_enter Try.func5, Try.ntmps5
      go_wp2_with (first | (go_at_call 26; with_reducible refine (bound_Plus _ _ _).mono ?_; rintro e w' ⟨rfl, rfl⟩) | (go_at_call 27; with_reducible refine (bound_Is _ _).mono ?_; rintro e w' ⟨rfl, rfl⟩) | (go_at_call 28; with_reducible refine (bound_Half _ _).mono ?_; rintro e w' ⟨rfl, rfl⟩) | (go_at_call 29; with_reducible refine (bound_Even _ _).mono ?_; rintro e w' ⟨rfl, rfl⟩) | (go_at_call 30; with_reducible refine (bound_Less _ _ _).mono ?_; rintro e w' ⟨rfl, rfl⟩) | (go_at_call 31; with_reducible refine (bound_Saturates _ _ _).mono ?_; rintro e w' ⟨rfl, rfl⟩) | (go_at_call 36; with_reducible refine (bound_Twice _ _).mono ?_; rintro e w' ⟨rfl, rfl⟩) | (go_at_call 25; with_reducible refine (bound_known _).mono ?_; rintro e w' ⟨rfl, rfl⟩))
      go_ret
      exact ⟨rfl, rfl⟩
end Go.Proofs.Ythbjagibohgpaaa
