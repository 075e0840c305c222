/- The walk of the statement NumLaws, by the contracts of the functions that it calls. -/
import Derived.Test.YthbjagibohgpaaaNumE
import Derived.Deep.DeepCutAuto
import Derived.Lib.Hide
namespace Go.Proofs.Ythbjagibohgpaaa
open Go.RowKit
open Gn
theorem fit_or (x : Int) : (I64 x ∧ fitV x = x ∧ fitW x = 0) ∨ (¬ I64 x ∧ fitV x = 0 ∧ fitW x = 1) := by
  by_cases h : I64 x
  · exact .inl ⟨h, by unfold fitV; rw [if_pos h], by unfold fitW; rw [if_pos h]⟩
  · exact .inr ⟨h, by unfold fitV; rw [if_neg h], by unfold fitW; rw [if_neg h]⟩
theorem div_back {a b : Int} (ha : I64 a) : wrap64 (wrap64 (a.tdiv b * b) + a.tmod b) = a := by
  have e := Int.mul_tdiv_add_tmod a b
  rw [Int.mul_comm] at e
  have s := tmod_sign a b
  have u : I64 (a.tdiv b * b) := by unfold I64 at *; omega
  rw [wrap64_eq u, e, wrap64_eq ha]
theorem rem_lt {a b : Int} (h1 : b ≠ 0) : (a.tmod b).natAbs < b.natAbs := by
  rw [Int.natAbs_tmod]; exact Nat.mod_lt _ (by omega)
set_option maxHeartbeats 4000000 in
set_option maxRecDepth 100000 in
theorem law_NumLaws (a b : Int) (ha : I64 a) (hb : I64 b) (w : World) :
    Calls Try.prog 12 #[.int .i64 a, .int .i64 b] w fun e w' => e = .returned (.bool true) ∧ w = w' := by
  have k := num_known w
  have c1 := num_Add a b w ha hb
  have c2 := num_Add b a w hb ha
  rw [Int.add_comm b a] at c2
  have HF := Lib.hid (fit_or (a + b))
  have HW : Hid (I64 (a + b) → wrap64 (a + b) = a + b) := wrap64_eq
  have c3 := num_Sub a b w ha hb
  have c4 := num_Neg b w hb
  have HF3 := Lib.hid (fit_or (a - b))
  have HF4 := Lib.hid (fit_or (-b))
  have c5 : Hid (I64 (-b) → Calls Try.prog 52 #[.int .i64 a, .int .i64 (-b)] w fun e w' => e = .returned (.tuple #[.int .i64 (fitV (a - b)), .int .i64 (fitW (a - b))]) ∧ w = w') := fun h => by
    have := num_Add a (-b) w ha h
    rw [show a + -b = a - b by omega] at this
    exact this
  have c6 := num_Mul a b w ha hb
  have HF6 := Lib.hid (fit_or (a * b))
  have HM : Hid (wrap64 a = a) := wrap64_eq ha
  have HW6 : Hid (I64 (a * b) → wrap64 (a * b) = a * b) := wrap64_eq
  have c7 := num_Div a b w ha
  have c8 := num_Rem a b w
  have HD := Lib.hid (divW_cases a b)
  have HDV : Hid ((divW a b = 0 → divV a b = a.tdiv b ∧ remV a b = a.tmod b) ∧ (divW a b ≠ 0 → divV a b = 0 ∧ remV a b = 0)) := ⟨fun h => ⟨by unfold divV; rw [if_pos h], by unfold remV; rw [if_pos h]⟩, fun h => ⟨by unfold divV; rw [if_neg h], by unfold remV; rw [if_neg h]⟩⟩
  have HB := Lib.hid (@div_back a b ha)
  have HR := Lib.hid (@rem_lt a b)
  have HS := Lib.hid (tmod_sign a b)
  have HA := Lib.hid ha
  have HBB := Lib.hid hb
  clear ha hb
  generalize fitV (a + b) = s at *
  generalize fitW (a + b) = sw at *
  generalize fitV (a - b) = d at *
  generalize fitW (a - b) = dw at *
  generalize fitV (-b) = n at *
  generalize fitW (-b) = nw at *
  generalize fitV (a * b) = p at *
  generalize fitW (a * b) = pw at *
  generalize divV a b = q at *
  generalize remV a b = r at *
  generalize divW a b = qw at *
  go_enter Try.func12, Try.ntmps12
  go_upto_region 5 with (first | (go_at_call 40; with_reducible refine k.mono ?_; rintro e w' ⟨rfl, rfl⟩) | (go_at_call 52; first | (with_reducible refine c1.mono ?_; clear c1; rintro e w' ⟨rfl, rfl⟩) | (with_reducible refine c2.mono ?_; clear c2; rintro e w' ⟨rfl, rfl⟩)))
  go_cut [48] (fun s48 wx => s48 = .bool false ∧ w = wx)
  case first =>
    clear c3 c4 c5 c6 c7 c8 HF3 HF4 HF6 HM HW6 HD HDV HB HR HS HA HBB
    rcases HF.out with ⟨hi, rfl, rfl⟩ | ⟨hi, rfl, rfl⟩
    · have hw := HW.out hi
      clear HF HW hi
      as_aux_lemma =>
        go_wp2_with fail
        go_meet
        exact ⟨rfl, rfl⟩
    · clear HF HW hi
      as_aux_lemma =>
        go_wp2_with fail
        go_meet
        exact ⟨rfl, rfl⟩
  case rest =>
    obtain ⟨rfl, rfl⟩ := hcut
    clear HF HW
    go_upto_region 9 with (first | (go_at_call 54; with_reducible refine c3.mono ?_; rintro e w' ⟨rfl, rfl⟩) | (go_at_call 49; with_reducible refine c4.mono ?_; rintro e w' ⟨rfl, rfl⟩))
    go_cut [65] (fun s65 wx => s65 = .bool (decide (dw = 0) && decide (nw = 0)) ∧ w = wx)
    case first =>
      clear c5 c6 c7 c8 HF6 HM HW6 HD HDV HB HR HS HA HBB
      rcases HF3.out with ⟨_, rfl, rfl⟩ | ⟨_, rfl, rfl⟩ <;> rcases HF4.out with ⟨_, rfl, rfl⟩ | ⟨_, rfl, rfl⟩
      all_goals
        clear HF3 HF4
        as_aux_lemma =>
          go_wp2_with fail
          go_meet
          exact ⟨rfl, rfl⟩
    case rest =>
      obtain ⟨rfl, rfl⟩ := hcut
      go_upto_if 65 with fail
      go_cut [] (fun wx => w = wx)
      case first =>
        clear c6 c7 c8 HF6 HM HW6 HD HDV HB HR HS HA HBB
        rcases HF3.out with ⟨_, rfl, rfl⟩ | ⟨_, rfl, rfl⟩ <;> rcases HF4.out with ⟨h4, rfl, rfl⟩ | ⟨_, rfl, rfl⟩
        · have c5' := c5.out h4
          clear HF3 HF4 c5 h4
          as_aux_lemma =>
            go_wp2_with (go_at_call 52; refine c5'.mono ?_; rintro e w' ⟨rfl, rfl⟩)
            go_meet
            exact rfl
        all_goals
          clear HF3 HF4
          as_aux_lemma =>
            go_wp2_with fail
            go_meet
            exact rfl
      case rest =>
        obtain rfl := hcut
        clear HF3 HF4 c5 c3 c4
        go_upto_region 14 with (go_at_call 48; with_reducible refine c6.mono ?_; rintro e w' ⟨rfl, rfl⟩)
        go_cut [112] (fun s112 wx => s112 = .bool false ∧ w = wx)
        case first =>
          clear c7 c8 HD HDV HB HR HS HA HBB
          rcases HF6.out with ⟨hi, rfl, rfl⟩ | ⟨hi, rfl, rfl⟩
          · have hw := HW6.out hi
            by_cases h0 : b = 0
            · have g0 : (b != 0) = false := by simpa using h0
              clear HF6 HW6 HM hi h0
              as_aux_lemma =>
                go_wp2_with fail
                go_meet
                exact ⟨rfl, rfl⟩
            · have g0 : (b != 0) = true := by simpa using h0
              by_cases h1 : b = -1
              · have g1 : (b != -1) = false := by simpa using h1
                by_cases h2 : a = -9223372036854775808
                · have g2 : (a != -9223372036854775808) = false := by simpa using h2
                  clear HF6 HW6 HM hi h0 h1 h2
                  as_aux_lemma =>
                    go_wp2_with fail
                    go_meet
                    exact ⟨rfl, rfl⟩
                · have g2 : (a != -9223372036854775808) = true := by simpa using h2
                  have g3 := HM.out
                  clear HF6 HW6 HM hi h1 h2
                  as_aux_lemma =>
                    go_wp2_with fail
                    go_meet
                    exact ⟨rfl, rfl⟩
              · have g1 : (b != -1) = true := by simpa using h1
                have g3 := HM.out
                clear HF6 HW6 HM hi h1
                as_aux_lemma =>
                  go_wp2_with fail
                  go_meet
                  exact ⟨rfl, rfl⟩
          · clear HF6 HW6 HM hi
            as_aux_lemma =>
              go_wp2_with fail
              go_meet
              exact ⟨rfl, rfl⟩
        case rest =>
          obtain ⟨rfl, rfl⟩ := hcut
          clear HF6 HW6 HM c6
          rcases HD.out with ⟨rfl, rfl⟩ | ⟨rfl, rfl, rfl⟩ | ⟨rfl, h1, h2⟩
          · obtain ⟨rfl, rfl⟩ := HDV.out.2 (by omega)
            clear HD HDV HB HR HS HA HBB
            as_aux_lemma =>
              go_wp2_with (first | (go_at_call 57; with_reducible refine c7.mono ?_; rintro e w' ⟨rfl, rfl⟩) | (go_at_call 59; with_reducible refine c8.mono ?_; rintro e w' ⟨rfl, rfl⟩))
              go_ret
              exact ⟨rfl, rfl⟩
          · obtain ⟨rfl, rfl⟩ := HDV.out.2 (by omega)
            clear HD HDV HB HR HS HA HBB
            as_aux_lemma =>
              go_wp2_with (first | (go_at_call 57; with_reducible refine c7.mono ?_; rintro e w' ⟨rfl, rfl⟩) | (go_at_call 59; with_reducible refine c8.mono ?_; rintro e w' ⟨rfl, rfl⟩))
              go_ret
              exact ⟨rfl, rfl⟩
          · obtain ⟨rfl, rfl⟩ := HDV.out.1 rfl
            have g1 := HB.out
            have g2 := HR.out h1
            have g3 := HS.out
            have hA := HA.out
            have hB := HBB.out
            clear HD HDV HB HR HS HA HBB
            unfold I64 at hA hB
            generalize a.tdiv b = q at *
            generalize a.tmod b = r at *
            have g4 : (wrap64 (wrap64 (q * b) + r) == a) = true := by rw [g1]; simp
            have hr : r = 0 ∨ (0 < r ∧ 0 < a) ∨ (r < 0 ∧ a < 0) := by omega
            have hb3 : b = -9223372036854775808 ∨ (0 < b ∧ ((b == -9223372036854775808) = false)) ∨ (b < 0 ∧ ((b == -9223372036854775808) = false) ∧ -9223372036854775807 ≤ b) := by
              by_cases e : b = -9223372036854775808
              · exact .inl e
              · have e' : (b == -9223372036854775808) = false := beq_eq_false_iff_ne.2 e
                rcases Int.lt_or_gt_of_ne h1 with h | h
                · exact .inr (.inr ⟨h, e', by omega⟩)
                · exact .inr (.inl ⟨h, e'⟩)
            have r1 : -9223372036854775807 ≤ r := by omega
            have r2 : r ≤ 9223372036854775807 := by omega
            have rb1 : 0 < b → r < b ∧ -r < b := by omega
            have rb2 : b < 0 → -r < -b ∧ r < -b := by omega
            obtain ⟨hA1, hA2⟩ := hA
            obtain ⟨hB1, hB2⟩ := hB
            clear g1 g2 g3 h2
            rcases hr with rfl | ⟨hr1, hr2⟩ | ⟨hr1, hr2⟩
            · have z0 : ((0 : Int) == 0) = true := rfl
              have g5 : (wrap64 (wrap64 (q * b)) == a) = true := by rw [Int.add_zero] at g4; exact g4
              have g6 : (wrap64 (q * b) == a) = true := by rw [wrap64_idem] at g5; exact g5
              rcases hb3 with rfl | ⟨hb1, hb2⟩ | ⟨hb1, hb2, hb3⟩
              all_goals
                as_aux_lemma =>
                  go_wp2_with (first | (go_at_call 57; with_reducible refine c7.mono ?_; rintro e w' ⟨rfl, rfl⟩) | (go_at_call 59; with_reducible refine c8.mono ?_; rintro e w' ⟨rfl, rfl⟩))
                  all_goals
                    go_ret
                    exact ⟨rfl, rfl⟩
            · have z0 : (r == 0) = false := beq_eq_false_iff_ne.2 (by omega)
              rcases hb3 with rfl | ⟨hb1, hb2⟩ | ⟨hb1, hb2, hb3⟩
              · clear rb1 rb2
                as_aux_lemma =>
                  go_wp2_with (first | (go_at_call 57; with_reducible refine c7.mono ?_; rintro e w' ⟨rfl, rfl⟩) | (go_at_call 59; with_reducible refine c8.mono ?_; rintro e w' ⟨rfl, rfl⟩))
                  go_ret
                  exact ⟨rfl, rfl⟩
              · obtain ⟨rb3, rb4⟩ := rb1 hb1
                clear rb1 rb2
                as_aux_lemma =>
                  go_wp2_with (first | (go_at_call 57; with_reducible refine c7.mono ?_; rintro e w' ⟨rfl, rfl⟩) | (go_at_call 59; with_reducible refine c8.mono ?_; rintro e w' ⟨rfl, rfl⟩))
                  go_ret
                  exact ⟨rfl, rfl⟩
              · obtain ⟨rb3, rb4⟩ := rb2 hb1
                clear rb1 rb2
                as_aux_lemma =>
                  go_wp2_with (first | (go_at_call 57; with_reducible refine c7.mono ?_; rintro e w' ⟨rfl, rfl⟩) | (go_at_call 59; with_reducible refine c8.mono ?_; rintro e w' ⟨rfl, rfl⟩))
                  go_ret
                  exact ⟨rfl, rfl⟩
            · have z0 : (r == 0) = false := beq_eq_false_iff_ne.2 (by omega)
              rcases hb3 with rfl | ⟨hb1, hb2⟩ | ⟨hb1, hb2, hb3⟩
              · clear rb1 rb2
                as_aux_lemma =>
                  go_wp2_with (first | (go_at_call 57; with_reducible refine c7.mono ?_; rintro e w' ⟨rfl, rfl⟩) | (go_at_call 59; with_reducible refine c8.mono ?_; rintro e w' ⟨rfl, rfl⟩))
                  go_ret
                  exact ⟨rfl, rfl⟩
              · obtain ⟨rb3, rb4⟩ := rb1 hb1
                clear rb1 rb2
                as_aux_lemma =>
                  go_wp2_with (first | (go_at_call 57; with_reducible refine c7.mono ?_; rintro e w' ⟨rfl, rfl⟩) | (go_at_call 59; with_reducible refine c8.mono ?_; rintro e w' ⟨rfl, rfl⟩))
                  go_ret
                  exact ⟨rfl, rfl⟩
              · obtain ⟨rb3, rb4⟩ := rb2 hb1
                clear rb1 rb2
                as_aux_lemma =>
                  go_wp2_with (first | (go_at_call 57; with_reducible refine c7.mono ?_; rintro e w' ⟨rfl, rfl⟩) | (go_at_call 59; with_reducible refine c8.mono ?_; rintro e w' ⟨rfl, rfl⟩))
                  go_ret
                  exact ⟨rfl, rfl⟩
end Go.Proofs.Ythbjagibohgpaaa
