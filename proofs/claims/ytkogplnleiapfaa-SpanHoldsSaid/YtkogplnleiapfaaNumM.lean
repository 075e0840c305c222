/- Walks: products. -/
import Derived.Test.YtkogplnleiapfaaNumW
import Derived.Test.YtkogplnleiapfaaMul64
namespace Go.Proofs.Ytkogplnleiapfaa
open Go.RowKit
open Gn
theorem num_size (a : Int) (w : World) (ha : I64 a) :
    Calls Try.prog 100 #[.int .i64 a] w fun e w' => e = .returned (.int .u64 (a.natAbs : Int)) ∧ w = w' := by
  obtain ⟨h1, h2⟩ := ha
  by_cases h0 : a < 0
  · go_enter Try.func100, Try.ntmps100
    go_wp2
    go_ret
    exact ret1_int (by simp [IntKind.wrap, IntKind.bits, IntKind.signed]; omega)
  · go_enter Try.func100, Try.ntmps100
    go_wp2
    go_ret
    exact ret1_int (by omega)
theorem num_Mul (a b : Int) (w : World) (ha : I64 a) (hb : I64 b) :
    Calls Try.prog 58 #[.int .i64 a, .int .i64 b] w fun e w' => e = .returned (.tuple #[.int .i64 (fitV (a * b)), .int .i64 (fitW (a * b))]) ∧ w = w' := by
  have c1 := num_size a w ha
  have c2 := num_size b w hb
  have b1 := natAbs_bound ha
  have b2 := natAbs_bound hb
  have c3 := bits_Mul64 a.natAbs b.natAbs (by omega) (by omega) w
  have hn := fun h => mul_neg_abs (a := a) (b := b) h
  have hp := fun h => mul_pos_abs (a := a) (b := b) h
  generalize a.natAbs * b.natAbs = p at *
  obtain ⟨h, hh⟩ : ∃ h : Nat, p / 18446744073709551616 = h := ⟨_, rfl⟩
  obtain ⟨l, hl⟩ : ∃ l : Nat, p % 18446744073709551616 = l := ⟨_, rfl⟩
  rw [hh, hl] at c3
  generalize a.natAbs = sa at *
  generalize b.natAbs = sb at *
  have key : ∀ m : Nat, m < 18446744073709551616 → ((h = 0 ∧ l ≤ m) ↔ p ≤ m) := fun m hm => by omega
  have fit : ∀ x : Int, I64 x → fitV x = wrap64 x ∧ fitW x = 0 := fun x hx => ⟨by unfold fitV; rw [if_pos hx, wrap64_eq hx], by unfold fitW; rw [if_pos hx]⟩
  have nofit : ∀ x : Int, ¬ I64 x → fitV x = 0 ∧ fitW x = 1 := fun x hx => ⟨by unfold fitV; rw [if_neg hx], by unfold fitW; rw [if_neg hx]⟩
  have h0 : 0 ≤ (h : Int) := by omega
  have h1 : (h : Int) ≤ 18446744073709551615 ∨ True := .inr trivial
  by_cases sgn : a < 0 ∧ ¬ b < 0 ∨ ¬ a < 0 ∧ b < 0
  · have e := hn sgn
    have k := key 9223372036854775808 (by omega)
    by_cases hf : h = 0 ∧ l ≤ 9223372036854775808
    · obtain ⟨f1, f2⟩ := fit (a * b) (by rw [e]; unfold I64; omega)
      rw [f1, f2]
      obtain ⟨rfl, hl2⟩ := hf
      have hl3 : (l : Int) ≤ 9223372036854775808 := by omega
      have sgb : (decide (a < 0) = true ∧ decide (b < 0) = false) ∨ (decide (a < 0) = false ∧ decide (b < 0) = true) := by simpa using sgn
      clear hn hp key fit nofit e k hh hl hl2 f1 f2 b1 b2 h0 h1 sgn
      rcases sgb with ⟨s1, s2⟩ | ⟨s1, s2⟩
      all_goals
        go_enter Try.func58, Try.ntmps58
        go_wp2_with (first | (go_at_call 100; first | (with_reducible refine c1.mono ?_; clear c1; rintro e w' ⟨rfl, rfl⟩) | (with_reducible refine c2.mono ?_; clear c2; rintro e w' ⟨rfl, rfl⟩)) | (go_at_call 99; with_reducible refine c3.mono ?_; rintro e w' ⟨rfl, rfl⟩))
        go_ret2
        exact ⟨rfl, rfl⟩
    · obtain ⟨f1, f2⟩ := nofit (a * b) (by rw [e]; unfold I64; omega)
      rw [f1, f2]
      have g : ((h : Int) != 0) = true ∨ (h = 0 ∧ 9223372036854775808 < (l : Int)) := by
        by_cases hz : h = 0
        · right; exact ⟨hz, by omega⟩
        · left; simpa using hz
      have sgb : (decide (a < 0) = true ∧ decide (b < 0) = false) ∨ (decide (a < 0) = false ∧ decide (b < 0) = true) := by simpa using sgn
      clear hn hp key fit nofit e k hh hl hf f1 f2 b1 b2 h1 sgn
      rcases sgb with ⟨s1, s2⟩ | ⟨s1, s2⟩ <;> rcases g with g | ⟨rfl, g⟩
      all_goals
        go_enter Try.func58, Try.ntmps58
        go_wp2_with (first | (go_at_call 100; first | (with_reducible refine c1.mono ?_; clear c1; rintro e w' ⟨rfl, rfl⟩) | (with_reducible refine c2.mono ?_; clear c2; rintro e w' ⟨rfl, rfl⟩)) | (go_at_call 99; with_reducible refine c3.mono ?_; rintro e w' ⟨rfl, rfl⟩))
        go_ret2
        exact ⟨rfl, rfl⟩
  · have sgn' : a < 0 ∧ b < 0 ∨ ¬ a < 0 ∧ ¬ b < 0 := by omega
    have e := hp sgn'
    have k := key 9223372036854775807 (by omega)
    by_cases hf : h = 0 ∧ l ≤ 9223372036854775807
    · obtain ⟨f1, f2⟩ := fit (a * b) (by rw [e]; unfold I64; omega)
      rw [f1, f2]
      obtain ⟨rfl, hl2⟩ := hf
      have hl3 : (l : Int) ≤ 9223372036854775807 := by omega
      have sgb : (decide (a < 0) = true ∧ decide (b < 0) = true) ∨ (decide (a < 0) = false ∧ decide (b < 0) = false) := by simpa using sgn'
      clear hn hp key fit nofit e k hh hl hl2 f1 f2 b1 b2 h0 h1 sgn sgn'
      rcases sgb with ⟨s1, s2⟩ | ⟨s1, s2⟩
      all_goals
        go_enter Try.func58, Try.ntmps58
        go_wp2_with (first | (go_at_call 100; first | (with_reducible refine c1.mono ?_; clear c1; rintro e w' ⟨rfl, rfl⟩) | (with_reducible refine c2.mono ?_; clear c2; rintro e w' ⟨rfl, rfl⟩)) | (go_at_call 99; with_reducible refine c3.mono ?_; rintro e w' ⟨rfl, rfl⟩))
        go_ret2
        exact ⟨rfl, rfl⟩
    · obtain ⟨f1, f2⟩ := nofit (a * b) (by rw [e]; unfold I64; omega)
      rw [f1, f2]
      have g : ((h : Int) != 0) = true ∨ (h = 0 ∧ 9223372036854775807 < (l : Int)) := by
        by_cases hz : h = 0
        · right; exact ⟨hz, by omega⟩
        · left; simpa using hz
      have sgb : (decide (a < 0) = true ∧ decide (b < 0) = true) ∨ (decide (a < 0) = false ∧ decide (b < 0) = false) := by simpa using sgn'
      clear hn hp key fit nofit e k hh hl hf f1 f2 b1 b2 h1 sgn sgn'
      rcases sgb with ⟨s1, s2⟩ | ⟨s1, s2⟩ <;> rcases g with g | ⟨rfl, g⟩
      all_goals
        go_enter Try.func58, Try.ntmps58
        go_wp2_with (first | (go_at_call 100; first | (with_reducible refine c1.mono ?_; clear c1; rintro e w' ⟨rfl, rfl⟩) | (with_reducible refine c2.mono ?_; clear c2; rintro e w' ⟨rfl, rfl⟩)) | (go_at_call 99; with_reducible refine c3.mono ?_; rintro e w' ⟨rfl, rfl⟩))
        go_ret2
        exact ⟨rfl, rfl⟩
end Go.Proofs.Ytkogplnleiapfaa
