/- Walks: products. -/
import Derived.Test.YthbjagibohgpaaaNumW
import Derived.Test.YthbjagibohgpaaaMul64
namespace Go.Proofs.Ythbjagibohgpaaa
open Go.RowKit
open Gn
theorem num_size (a : Int) (w : World) (ha : I64 a) :
    Calls Try.prog 67 #[.int .i64 a] w fun e w' => e = .returned (.int .u64 (a.natAbs : Int)) ∧ w = w' := by
  obtain ⟨h1, h2⟩ := ha
  by_cases h0 : a < 0
  · go_enter Try.func67, Try.ntmps67
    go_wp2
    go_ret
    exact ret1_int (by simp [IntKind.wrap, IntKind.bits, IntKind.signed]; omega)
  · go_enter Try.func67, Try.ntmps67
    go_wp2
    go_ret
    exact ret1_int (by omega)
theorem num_Mul (a b : Int) (w : World) (ha : I64 a) (hb : I64 b) :
    Calls Try.prog 48 #[.int .i64 a, .int .i64 b] w fun e w' => e = .returned (.tuple #[.int .i64 (fitV (a * b)), .int .i64 (fitW (a * b))]) ∧ w = w' := by
  have c1 := num_size a w ha
  have c2 := num_size b w hb
  have b1 := natAbs_bound ha
  have b2 := natAbs_bound hb
  have c3 := bits_Mul64 a.natAbs b.natAbs (by omega) (by omega) w
  have hn := fun h => mul_neg_abs (a := a) (b := b) h
  have hp := fun h => mul_pos_abs (a := a) (b := b) h
  generalize a.natAbs * b.natAbs = p at *
  obtain ⟨h, hh⟩ : ∃ h : Nat, p / 18446744073709551616 = h := ⟨_, rfl⟩
  obtain ⟨l, hl⟩ : ∃ l : Nat, p % 18446744073709551616 = l := ⟨_, rfl⟩
  rw [hh, hl] at c3
  generalize a.natAbs = sa at *
  generalize b.natAbs = sb at *
  have key : ∀ m : Nat, m < 18446744073709551616 → ((h = 0 ∧ l ≤ m) ↔ p ≤ m) := fun m hm => by omega
  have fit : ∀ x : Int, I64 x → fitV x = wrap64 x ∧ fitW x = 0 := fun x hx => ⟨by unfold fitV; rw [if_pos hx, wrap64_eq hx], by unfold fitW; rw [if_pos hx]⟩
  have nofit : ∀ x : Int, ¬ I64 x → fitV x = 0 ∧ fitW x = 1 := fun x hx => ⟨by unfold fitV; rw [if_neg hx], by unfold fitW; rw [if_neg hx]⟩
  have h0 : 0 ≤ (h : Int) := by omega
  have h1 : (h : Int) ≤ 18446744073709551615 ∨ True := .inr trivial
  by_cases sgn : a < 0 ∧ ¬ b < 0 ∨ ¬ a < 0 ∧ b < 0
  · have e := hn sgn
    have k := key 9223372036854775808 (by omega)
    by_cases hf : h = 0 ∧ l ≤ 9223372036854775808
    · obtain ⟨f1, f2⟩ := fit (a * b) (by rw [e]; unfold I64; omega)
      rw [f1, f2]
      obtain ⟨rfl, hl2⟩ := hf
      have hl3 : (l : Int) ≤ 9223372036854775808 := by omega
      have sgb : (decide (a < 0) = true ∧ decide (b < 0) = false) ∨ (decide (a < 0) = false ∧ decide (b < 0) = true) := by simpa using sgn
      clear hn hp key fit nofit e k hh hl hl2 f1 f2 b1 b2 h0 h1 sgn
      rcases sgb with ⟨s1, s2⟩ | ⟨s1, s2⟩
      all_goals
        go_enter Try.func48, Try.ntmps48
        go_wp2_with (first | (go_at_call 67; first | (with_reducible refine c1.mono ?_; clear c1; rintro e w' ⟨rfl, rfl⟩) | (with_reducible refine c2.mono ?_; clear c2; rintro e w' ⟨rfl, rfl⟩)) | (go_at_call 46; with_reducible refine c3.mono ?_; rintro e w' ⟨rfl, rfl⟩))
        go_ret2
        exact ⟨rfl, rfl⟩
    · obtain ⟨f1, f2⟩ := nofit (a * b) (by rw [e]; unfold I64; omega)
      rw [f1, f2]
      have g : ((h : Int) != 0) = true ∨ (h = 0 ∧ 9223372036854775808 < (l : Int)) := by
        by_cases hz : h = 0
        · right; exact ⟨hz, by omega⟩
        · left; simpa using hz
      have sgb : (decide (a < 0) = true ∧ decide (b < 0) = false) ∨ (decide (a < 0) = false ∧ decide (b < 0) = true) := by simpa using sgn
      clear hn hp key fit nofit e k hh hl hf f1 f2 b1 b2 h1 sgn
      rcases sgb with ⟨s1, s2⟩ | ⟨s1, s2⟩ <;> rcases g with g | ⟨rfl, g⟩
      all_goals
        go_enter Try.func48, Try.ntmps48
        go_wp2_with (first | (go_at_call 67; first | (with_reducible refine c1.mono ?_; clear c1; rintro e w' ⟨rfl, rfl⟩) | (with_reducible refine c2.mono ?_; clear c2; rintro e w' ⟨rfl, rfl⟩)) | (go_at_call 46; with_reducible refine c3.mono ?_; rintro e w' ⟨rfl, rfl⟩))
        go_ret2
        exact ⟨rfl, rfl⟩
  · have sgn' : a < 0 ∧ b < 0 ∨ ¬ a < 0 ∧ ¬ b < 0 := by omega
    have e := hp sgn'
    have k := key 9223372036854775807 (by omega)
    by_cases hf : h = 0 ∧ l ≤ 9223372036854775807
    · obtain ⟨f1, f2⟩ := fit (a * b) (by rw [e]; unfold I64; omega)
      rw [f1, f2]
      obtain ⟨rfl, hl2⟩ := hf
      have hl3 : (l : Int) ≤ 9223372036854775807 := by omega
      have sgb : (decide (a < 0) = true ∧ decide (b < 0) = true) ∨ (decide (a < 0) = false ∧ decide (b < 0) = false) := by simpa using sgn'
      clear hn hp key fit nofit e k hh hl hl2 f1 f2 b1 b2 h0 h1 sgn sgn'
      rcases sgb with ⟨s1, s2⟩ | ⟨s1, s2⟩
      all_goals
        go_enter Try.func48, Try.ntmps48
        go_wp2_with (first | (go_at_call 67; first | (with_reducible refine c1.mono ?_; clear c1; rintro e w' ⟨rfl, rfl⟩) | (with_reducible refine c2.mono ?_; clear c2; rintro e w' ⟨rfl, rfl⟩)) | (go_at_call 46; with_reducible refine c3.mono ?_; rintro e w' ⟨rfl, rfl⟩))
        go_ret2
        exact ⟨rfl, rfl⟩
    · obtain ⟨f1, f2⟩ := nofit (a * b) (by rw [e]; unfold I64; omega)
      rw [f1, f2]
      have g : ((h : Int) != 0) = true ∨ (h = 0 ∧ 9223372036854775807 < (l : Int)) := by
        by_cases hz : h = 0
        · right; exact ⟨hz, by omega⟩
        · left; simpa using hz
      have sgb : (decide (a < 0) = true ∧ decide (b < 0) = true) ∨ (decide (a < 0) = false ∧ decide (b < 0) = false) := by simpa using sgn'
      clear hn hp key fit nofit e k hh hl hf f1 f2 b1 b2 h1 sgn sgn'
      rcases sgb with ⟨s1, s2⟩ | ⟨s1, s2⟩ <;> rcases g with g | ⟨rfl, g⟩
      all_goals
        go_enter Try.func48, Try.ntmps48
        go_wp2_with (first | (go_at_call 67; first | (with_reducible refine c1.mono ?_; clear c1; rintro e w' ⟨rfl, rfl⟩) | (with_reducible refine c2.mono ?_; clear c2; rintro e w' ⟨rfl, rfl⟩)) | (go_at_call 46; with_reducible refine c3.mono ?_; rintro e w' ⟨rfl, rfl⟩))
        go_ret2
        exact ⟨rfl, rfl⟩
theorem lsize (a : Int) (w : World) (ha : I64 a) :
    Calls Try.prog 47 #[.int .i64 a] w fun e w' => e = .returned (.int .u64 (a.natAbs : Int)) ∧ w = w' := by
  obtain ⟨h1, h2⟩ := ha
  by_cases h0 : a < 0
  · go_enter Try.func47, Try.ntmps47
    go_wp2
    go_ret
    exact ret1_int (by simp [IntKind.wrap, IntKind.bits, IntKind.signed]; omega)
  · go_enter Try.func47, Try.ntmps47
    go_wp2
    go_ret
    exact ret1_int (by omega)
theorem ref_Mul (a b : Int) (w : World) (ha : I64 a) (hb : I64 b) :
    Calls Try.prog 56 #[.int .i64 a, .int .i64 b] w fun e w' => e = .returned (.tuple #[.int .i64 (fitV (a * b)), .int .i64 (fitW (a * b))]) ∧ w = w' := by
  by_cases ha0 : a = 0
  · subst ha0
    rw [Int.zero_mul]
    go_enter Try.func56, Try.ntmps56
    go_wp2_with fail
    go_ret2
    exact ret2_int (by decide) (by decide)
  have a0 : (a == 0) = false := beq_eq_false_iff_ne.2 ha0
  by_cases hb0 : b = 0
  · subst hb0
    rw [Int.mul_zero]
    clear ha0
    go_enter Try.func56, Try.ntmps56
    go_wp2_with fail
    go_ret2
    exact ret2_int (by decide) (by decide)
  have b0 : (b == 0) = false := beq_eq_false_iff_ne.2 hb0
  by_cases ha1 : a = -1
  · subst ha1
    have c := ref_Neg b w hb
    have e : -1 * b = -b := by omega
    rw [e]
    clear a0 ha0 hb0 e
    go_enter Try.func56, Try.ntmps56
    go_wp2_with (go_at_call 50; with_reducible refine c.mono ?_; rintro e w' ⟨rfl, rfl⟩)
    go_ret2
    exact ⟨rfl, rfl⟩
  have a1 : (a == -1) = false := beq_eq_false_iff_ne.2 ha1
  by_cases hb1 : b = -1
  · subst hb1
    have c := ref_Neg a w ha
    have e : a * -1 = -a := by omega
    rw [e]
    clear ha0 ha1 b0 hb0 e
    go_enter Try.func56, Try.ntmps56
    go_wp2_with (go_at_call 50; with_reducible refine c.mono ?_; rintro e w' ⟨rfl, rfl⟩)
    go_ret2
    exact ⟨rfl, rfl⟩
  have b1 : (b == -1) = false := beq_eq_false_iff_ne.2 hb1
  have m := mul_back (a := a) hb hb0
  have q := wrap64_eq (tdiv_i64 (wrap64_i64 (a * b)) hb0 (fun h => hb1 h.2))
  by_cases hf : I64 (a * b)
  · have g : (wrap64 ((wrap64 (a * b)).tdiv b) != a) = false := by rw [q, m.2 hf]; simp
    rw [show fitV (a * b) = wrap64 (a * b) by unfold fitV; rw [if_pos hf, wrap64_eq hf], show fitW (a * b) = 0 by unfold fitW; rw [if_pos hf]]
    clear m q hf ha0 ha1 hb1
    go_enter Try.func56, Try.ntmps56
    go_wp2_with fail
    go_ret2
    exact ⟨rfl, rfl⟩
  · have g : (wrap64 ((wrap64 (a * b)).tdiv b) != a) = true := by
      rw [q, bne_iff_ne]; exact fun h => hf (m.1 h)
    rw [show fitV (a * b) = 0 by unfold fitV; rw [if_neg hf], show fitW (a * b) = 1 by unfold fitW; rw [if_neg hf]]
    clear m q hf ha0 ha1 hb1
    go_enter Try.func56, Try.ntmps56
    go_wp2_with fail
    go_ret2
    exact ⟨rfl, rfl⟩
theorem num_same (v x : Int) (w : World) : Calls Try.prog 51 #[.int .i64 v, .int .i64 x, .int .i64 v, .int .i64 x] w fun e w' => e = .returned (.bool true) ∧ w = w' := by
  go_enter Try.func51, Try.ntmps51
  go_wp2_with fail
  go_ret
  exact ⟨rfl, rfl⟩
end Go.Proofs.Ythbjagibohgpaaa
