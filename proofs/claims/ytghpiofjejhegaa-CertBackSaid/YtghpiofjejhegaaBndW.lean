/- Walks: each function of the packages bound and gnomonref11 answers as the plain functions of the text Bnd say. -/
import Derived.Test.YtghpiofjejhegaaNumW
import Derived.Test.YtghpiofjejhegaaBnd
namespace Go.Proofs.Ytghpiofjejhegaa
open Go.RowKit
open Gn
theorem near_as (a : Int) (w : World) :
    Calls Try.prog 81 #[.int .i64 a] w fun e w' => e = .returned (.int .i64 (asB a)) ∧ w = w' := by
  by_cases h1 : a < -4611686018427387904 <;> by_cases h2 : 4611686018427387904 < a
  · omega
  all_goals
    go_enter Try.func81, Try.ntmps81
    go_wp2
    go_ret
    exact ret1_int (by unfold asB; repeat' split <;> omega)
theorem bound_Is (a : Int) (w : World) :
    Calls Try.prog 66 #[.int .i64 a] w fun e w' => e = .returned (.bool (isB a)) ∧ w = w' := by
  by_cases h1 : a = 9223372036854775807
  · subst h1
    go_enter Try.func66, Try.ntmps66
    go_wp2
    go_ret
    exact ret1_bool rfl
  · have g : (a == 9223372036854775807) = false := beq_eq_false_iff_ne.2 h1
    by_cases h2 : a < -4611686018427387904 <;> by_cases h3 : 4611686018427387904 < a
    · omega
    all_goals
      go_enter Try.func66, Try.ntmps66
      go_wp2
      go_ret
      exact ret1_bool (by unfold isB; rw [Bool.eq_iff_iff]; simp; omega)
theorem ref_Is (a : Int) (w : World) :
    Calls Try.prog 68 #[.int .i64 a] w fun e w' => e = .returned (.bool (isB a)) ∧ w = w' := by
  by_cases h1 : a = 9223372036854775807
  · subst h1
    go_enter Try.func68, Try.ntmps68
    go_wp2
    go_ret
    exact ret1_bool rfl
  · have g : (a == 9223372036854775807) = false := beq_eq_false_iff_ne.2 h1
    by_cases h2 : a < -4611686018427387904 <;> by_cases h3 : 4611686018427387904 < a
    · omega
    all_goals
      go_enter Try.func68, Try.ntmps68
      go_wp2
      go_ret
      exact ret1_bool (by unfold isB; rw [Bool.eq_iff_iff]; simp; omega)
end Go.Proofs.Ytghpiofjejhegaa
namespace Go.Proofs.Ytghpiofjejhegaa
open Go.RowKit
open Gn
end Go.Proofs.Ytghpiofjejhegaa
namespace Go.Proofs.Ytghpiofjejhegaa
open Go.RowKit
open Gn
end Go.Proofs.Ytghpiofjejhegaa
