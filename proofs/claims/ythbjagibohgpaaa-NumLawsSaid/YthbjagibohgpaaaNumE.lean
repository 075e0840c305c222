/- The walks of the statements NumExact and NumProducts, by the contracts of the functions that they call. -/
import Derived.Test.YthbjagibohgpaaaNumM
import Derived.Test.YthbjagibohgpaaaNumK
namespace Go.Proofs.Ythbjagibohgpaaa
open Go.RowKit
open Gn
theorem law_NumExact (a b : Int) (ha : I64 a) (hb : I64 b) (w : World) :
    Calls Try.prog 11 #[.int .i64 a, .int .i64 b] w fun e w' => e = .returned (.bool true) ∧ w = w' := by
  have k := num_known w
  have c1 := num_Neg a w ha
  have d1 := ref_Neg a w ha
  have c2 := num_Add a b w ha hb
  have d2 := ref_Add a b w ha hb
  have c3 := num_Sub a b w ha hb
  have d3 := ref_Sub a b w ha hb
  have c4 := num_Mul a b w ha hb
  have d4 := ref_Mul a b w ha hb
  have c5 := num_Div a b w ha
  have d5 := ref_Div a b w ha
  have c6 := num_Rem a b w
  have d6 := ref_Rem a b w ha
  go_enter Try.func11, Try.ntmps11
  go_wp2_with (first | (go_at_call 40; with_reducible refine k.mono ?_; rintro e w' ⟨rfl, rfl⟩) | (go_at_call 49; with_reducible refine c1.mono ?_; rintro e w' ⟨rfl, rfl⟩) | (go_at_call 50; with_reducible refine d1.mono ?_; rintro e w' ⟨rfl, rfl⟩) | (go_at_call 52; with_reducible refine c2.mono ?_; rintro e w' ⟨rfl, rfl⟩) | (go_at_call 53; with_reducible refine d2.mono ?_; rintro e w' ⟨rfl, rfl⟩) | (go_at_call 54; with_reducible refine c3.mono ?_; rintro e w' ⟨rfl, rfl⟩) | (go_at_call 55; with_reducible refine d3.mono ?_; rintro e w' ⟨rfl, rfl⟩) | (go_at_call 48; with_reducible refine c4.mono ?_; rintro e w' ⟨rfl, rfl⟩) | (go_at_call 56; with_reducible refine d4.mono ?_; rintro e w' ⟨rfl, rfl⟩) | (go_at_call 57; with_reducible refine c5.mono ?_; rintro e w' ⟨rfl, rfl⟩) | (go_at_call 58; with_reducible refine d5.mono ?_; rintro e w' ⟨rfl, rfl⟩) | (go_at_call 59; with_reducible refine c6.mono ?_; rintro e w' ⟨rfl, rfl⟩) | (go_at_call 60; with_reducible refine d6.mono ?_; rintro e w' ⟨rfl, rfl⟩) | (go_at_call 51; with_reducible refine (num_same _ _ _).mono ?_; rintro e w' ⟨rfl, rfl⟩))
  go_ret
  exact ⟨rfl, rfl⟩
theorem law_NumProducts (a b : Int) (ha : I64 a) (hb : I64 b) (w : World) :
    Calls Try.prog 10 #[.int .i64 a, .int .i64 b] w fun e w' => e = .returned (.bool true) ∧ w = w' := by
  have k := num_known w
  have c1 := lsize a w ha
  have c2 := lsize b w hb
  have b1 := natAbs_bound ha
  have b2 := natAbs_bound hb
  have c3 := bits_Mul64 a.natAbs b.natAbs (by omega) (by omega) w
  have c4 := num_Mul a b w ha hb
  have c5 := fun h => lsize (a * b) w h
  have hn := fun h => mul_neg_abs (a := a) (b := b) h
  have hp := fun h => mul_pos_abs (a := a) (b := b) h
  have fit : ∀ x : Int, I64 x → fitV x = x ∧ fitW x = 0 := fun x hx => ⟨by unfold fitV; rw [if_pos hx], by unfold fitW; rw [if_pos hx]⟩
  have nofit : ∀ x : Int, ¬ I64 x → fitV x = 0 ∧ fitW x = 1 := fun x hx => ⟨by unfold fitV; rw [if_neg hx], by unfold fitW; rw [if_neg hx]⟩
  generalize a.natAbs * b.natAbs = p at *
  obtain ⟨h, hh⟩ : ∃ h : Nat, p / 18446744073709551616 = h := ⟨_, rfl⟩
  obtain ⟨l, hl⟩ : ∃ l : Nat, p % 18446744073709551616 = l := ⟨_, rfl⟩
  rw [hh, hl] at c3
  generalize a.natAbs = sa at *
  generalize b.natAbs = sb at *
  generalize hab : a * b = ab at *
  have h0 : 0 ≤ (h : Int) := by omega
  by_cases sgn : a < 0 ∧ ¬ b < 0 ∨ ¬ a < 0 ∧ b < 0
  · have e := hn sgn
    have key : (h = 0 ∧ l ≤ 9223372036854775808) ↔ p ≤ 9223372036854775808 := by omega
    have sgb : (decide (a < 0) = true ∧ decide (b < 0) = false) ∨ (decide (a < 0) = false ∧ decide (b < 0) = true) := by simpa using sgn
    by_cases hf : h = 0 ∧ l ≤ 9223372036854775808
    · have hi : I64 ab := by rw [e]; unfold I64; omega
      obtain ⟨f1, f2⟩ := fit ab hi
      rw [f1, f2] at c4
      replace c5 := c5 hi
      rw [show ((ab.natAbs : Nat) : Int) = (l : Int) by omega] at c5
      obtain ⟨rfl, hl2⟩ := hf
      have hl3 : (l : Int) ≤ 9223372036854775808 := by omega
      have hz : l = 0 ∨ (((l : Int) == 0) = false ∧ decide (ab < 0) = true) := by
        by_cases hz : l = 0
        · left; exact hz
        · right; exact ⟨beq_eq_false_iff_ne.2 (by omega), decide_eq_true (by omega)⟩
      clear hn hp key fit nofit e hh hl hl2 f1 f2 b1 b2 h0 sgn hab hi ha hb
      rcases sgb with ⟨s1, s2⟩ | ⟨s1, s2⟩ <;> rcases hz with rfl | ⟨hz, hz2⟩
      all_goals
        go_enter Try.func10, Try.ntmps10
        go_wp2_with (first | (go_at_call 40; with_reducible refine k.mono ?_; rintro e w' ⟨rfl, rfl⟩) | (go_at_call 47; first | (with_reducible refine c1.mono ?_; clear c1; rintro e w' ⟨rfl, rfl⟩) | (with_reducible refine c2.mono ?_; clear c2; rintro e w' ⟨rfl, rfl⟩) | (with_reducible refine c5.mono ?_; rintro e w' ⟨rfl, rfl⟩)) | (go_at_call 46; with_reducible refine c3.mono ?_; rintro e w' ⟨rfl, rfl⟩) | (go_at_call 48; with_reducible refine c4.mono ?_; rintro e w' ⟨rfl, rfl⟩))
        go_ret
        exact ⟨rfl, rfl⟩
    · obtain ⟨f1, f2⟩ := nofit ab (by rw [e]; unfold I64; omega)
      rw [f1, f2] at c4
      have g : 0 < (h : Int) ∨ (h = 0 ∧ 9223372036854775808 < (l : Int)) := by omega
      clear hn hp key fit nofit e hh hl hf f1 f2 b1 b2 sgn c5 hab ha hb
      rcases sgb with ⟨s1, s2⟩ | ⟨s1, s2⟩ <;> rcases g with g | ⟨rfl, g⟩
      all_goals
        go_enter Try.func10, Try.ntmps10
        go_wp2_with (first | (go_at_call 40; with_reducible refine k.mono ?_; rintro e w' ⟨rfl, rfl⟩) | (go_at_call 47; first | (with_reducible refine c1.mono ?_; clear c1; rintro e w' ⟨rfl, rfl⟩) | (with_reducible refine c2.mono ?_; clear c2; rintro e w' ⟨rfl, rfl⟩) | (with_reducible refine c5.mono ?_; rintro e w' ⟨rfl, rfl⟩)) | (go_at_call 46; with_reducible refine c3.mono ?_; rintro e w' ⟨rfl, rfl⟩) | (go_at_call 48; with_reducible refine c4.mono ?_; rintro e w' ⟨rfl, rfl⟩))
        go_ret
        exact ⟨rfl, rfl⟩
  · have sgn' : a < 0 ∧ b < 0 ∨ ¬ a < 0 ∧ ¬ b < 0 := by omega
    have e := hp sgn'
    have key : (h = 0 ∧ l ≤ 9223372036854775807) ↔ p ≤ 9223372036854775807 := by omega
    have sgb : (decide (a < 0) = true ∧ decide (b < 0) = true) ∨ (decide (a < 0) = false ∧ decide (b < 0) = false) := by simpa using sgn'
    by_cases hf : h = 0 ∧ l ≤ 9223372036854775807
    · have hi : I64 ab := by rw [e]; unfold I64; omega
      obtain ⟨f1, f2⟩ := fit ab hi
      rw [f1, f2] at c4
      replace c5 := c5 hi
      rw [show ((ab.natAbs : Nat) : Int) = (l : Int) by omega] at c5
      obtain ⟨rfl, hl2⟩ := hf
      have hl3 : (l : Int) ≤ 9223372036854775807 := by omega
      have hz : l = 0 ∨ (((l : Int) == 0) = false ∧ decide (ab < 0) = false) := by
        by_cases hz : l = 0
        · left; exact hz
        · right; exact ⟨beq_eq_false_iff_ne.2 (by omega), decide_eq_false (by omega)⟩
      clear hn hp key fit nofit e hh hl hl2 f1 f2 b1 b2 h0 sgn sgn' hab hi ha hb
      rcases sgb with ⟨s1, s2⟩ | ⟨s1, s2⟩ <;> rcases hz with rfl | ⟨hz, hz2⟩
      all_goals
        go_enter Try.func10, Try.ntmps10
        go_wp2_with (first | (go_at_call 40; with_reducible refine k.mono ?_; rintro e w' ⟨rfl, rfl⟩) | (go_at_call 47; first | (with_reducible refine c1.mono ?_; clear c1; rintro e w' ⟨rfl, rfl⟩) | (with_reducible refine c2.mono ?_; clear c2; rintro e w' ⟨rfl, rfl⟩) | (with_reducible refine c5.mono ?_; rintro e w' ⟨rfl, rfl⟩)) | (go_at_call 46; with_reducible refine c3.mono ?_; rintro e w' ⟨rfl, rfl⟩) | (go_at_call 48; with_reducible refine c4.mono ?_; rintro e w' ⟨rfl, rfl⟩))
        go_ret
        exact ⟨rfl, rfl⟩
    · obtain ⟨f1, f2⟩ := nofit ab (by rw [e]; unfold I64; omega)
      rw [f1, f2] at c4
      have g : 0 < (h : Int) ∨ (h = 0 ∧ 9223372036854775807 < (l : Int)) := by omega
      clear hn hp key fit nofit e hh hl hf f1 f2 b1 b2 sgn sgn' c5 hab ha hb
      rcases sgb with ⟨s1, s2⟩ | ⟨s1, s2⟩ <;> rcases g with g | ⟨rfl, g⟩
      all_goals
        go_enter Try.func10, Try.ntmps10
        go_wp2_with (first | (go_at_call 40; with_reducible refine k.mono ?_; rintro e w' ⟨rfl, rfl⟩) | (go_at_call 47; first | (with_reducible refine c1.mono ?_; clear c1; rintro e w' ⟨rfl, rfl⟩) | (with_reducible refine c2.mono ?_; clear c2; rintro e w' ⟨rfl, rfl⟩) | (with_reducible refine c5.mono ?_; rintro e w' ⟨rfl, rfl⟩)) | (go_at_call 46; with_reducible refine c3.mono ?_; rintro e w' ⟨rfl, rfl⟩) | (go_at_call 48; with_reducible refine c4.mono ?_; rintro e w' ⟨rfl, rfl⟩))
        go_ret
        exact ⟨rfl, rfl⟩
end Go.Proofs.Ythbjagibohgpaaa
