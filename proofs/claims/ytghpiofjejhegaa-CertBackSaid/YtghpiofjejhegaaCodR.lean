/- The walk of Take, of the package gnomonref18. -/
import Derived.Test.YtghpiofjejhegaaCodW
namespace Go.Proofs.Ytghpiofjejhegaa
open Go.RowKit
open Gn
/-- What gnomonref18.Take adds. -/
theorem rtake_group {x : Int} {i acc : Nat} (h0 : 0 ≤ x) (h1 : x ≤ 255) (hi : i ≤ 9) (h9 : i = 9 → x ≤ 1) (ha : acc < 128 ^ i) :
    IntKind.u64.wrap ((acc : Int) + IntKind.u64.wrap (x % 128 * 2 ^ (7 * i))) = ((acc + x.toNat % 128 * 128 ^ i : Nat) : Int) := by
  have h9' : i = 9 → x.toNat % 128 ≤ 1 := fun h => by have := h9 h; omega
  have h2 := group_sum (y := x.toNat % 128) (by omega) hi h9' ha
  rw [show x % 128 = ((x.toNat % 128 : Nat) : Int) by omega, shl_group (by omega) hi h9']
  rw [show (acc : Int) + ((x.toNat % 128 * 128 ^ i : Nat) : Int) = ((acc + x.toNat % 128 * 128 ^ i : Nat) : Int) by omega]
  exact u64_wrap_nat h2
set_option maxHeartbeats 1000000 in
set_option maxRecDepth 100000 in
theorem ref_Take (A : Option Addr) (c : Nat) (b : List Int) (p : Nat) (w : World) (hb : Bts b) (hr : Rd w w.heap.size .u8 A b.length (nth b)) (hl : (b.length : Int) ≤ 140737488351232) (hp : p ≤ b.length) :
    Calls Try.prog 75 #[.slice A b.length c, .int .i64 p] w fun e w' => e = .returned (.tuple #[.int .u64 (take (b.drop p)).1, .int .i64 (take (b.drop p)).2.1, .int .i64 (take (b.drop p)).2.2]) ∧ w = w' := by
  go_enter Try.func75, Try.ntmps75
  go_wp2
  go_loop [7, 8] (fun n at_ => ∃ i acc : Nat, n = .int .u64 acc ∧ at_ = .int .i64 i ∧ p + i ≤ b.length ∧ i ≤ 9 ∧ acc < 128 ^ i ∧ tk i acc (b.drop (p + i)) = take (b.drop p))
    (fun _ at_ => b.length - (intOf at_).toNat)
  case atStart => exact ⟨0, 0, rfl, rfl, by omega, by omega, by omega, rfl⟩
  case round =>
    obtain ⟨i, acc, rfl, rfl, hi, hi9, hacc, ht⟩ := hrel
    rcases Nat.lt_or_ge (p + i) b.length with hlt | hge
    · obtain ⟨g, off, rfl, _, hc⟩ := hr (by omega)
      have hci := hc (p + i) hlt
      clear hc hr
      have hx := hb _ (nth_mem hlt)
      obtain ⟨hx0, hx1⟩ := hx
      generalize hxv : nth b (p + i) = x at *
      rw [drop_nth hlt, hxv] at ht
      have HT : Hid (tk i acc (x :: b.drop (p + i + 1)) = take (b.drop p)) := ht
      clear ht hxv hb
      by_cases hbad : (i = 9 ∧ 1 < x) ∨ (0 < i ∧ x = 0)
      · rcases hbad with ⟨rfl, h1⟩ | ⟨h1, rfl⟩
        · go_wp2_with fail
          go_ret3
          rw [← HT.out, tk_long (by omega)]
          exact ret3_int rfl rfl rfl
        · rcases Nat.lt_or_ge i 9 with h9 | h9
          · have g9 : ((i : Int) == 9) = false := beq_eq_false_iff_ne.2 (by omega)
            go_wp2_with fail
            go_ret3
            rw [← HT.out, tk_long (by omega)]
            exact ret3_int rfl rfl rfl
          · obtain rfl : i = 9 := by omega
            go_wp2_with fail
            go_ret3
            rw [← HT.out, tk_long (by omega)]
            exact ret3_int rfl rfl rfl
      · have hx9 : i = 9 → x ≤ 1 := fun h => by omega
        have hx00 : 0 < i → x ≠ 0 := fun h => by omega
        have HG := rtake_group hx0 hx1 hi9 hx9 hacc
        have HG' : Hid (IntKind.u64.wrap ((acc : Int) + IntKind.u64.wrap (x % 128 * 2 ^ (7 * i))) = ((acc + x.toNat % 128 * 128 ^ i : Nat) : Int)) := HG
        clear HG
        have hacc' : Hid (acc < 128 ^ i) := hacc
        clear hacc
        have hbad' : Hid (¬ ((i = 9 ∧ 1 < x) ∨ (0 < i ∧ x = 0))) := hbad
        clear hbad
        by_cases h128 : x < 128
        · rcases Nat.lt_or_ge i 9 with h9 | h9
          · have g9 : ((i : Int) == 9) = false := beq_eq_false_iff_ne.2 (by omega)
            by_cases h0 : i = 0
            · have g0 : ¬ (0 < i) := by omega
              clear h0 hx9 hx00
              go_wp2_with fail
              go_ret3
              rw [← HT.out, tk_stop hbad'.out h128]
              exact ret3_int HG'.out (by simp) rfl
            · have g0 : 0 < i := by omega
              have gx : (x == 0) = false := beq_eq_false_iff_ne.2 (hx00 g0)
              clear h0 hx9 hx00
              go_wp2_with fail
              go_ret3
              rw [← HT.out, tk_stop hbad'.out h128]
              exact ret3_int HG'.out (by simp) rfl
          · obtain rfl : i = 9 := by omega
            have gx : (x == 0) = false := beq_eq_false_iff_ne.2 (hx00 (by omega))
            have gx1 : ¬ 1 < x := by have := hx9 rfl; omega
            clear hx9 hx00
            go_wp2_with fail
            go_ret3
            rw [← HT.out, tk_stop (by have : x ≠ 0 := by simpa using gx
                                      omega) h128]
            have e : IntKind.u64.wrap (x % 128 * 2 ^ (7 * 9)) = x % 128 * 9223372036854775808 := by
              rw [show (2 : Int) ^ (7 * 9) = 9223372036854775808 by decide]
              exact IntWalk.u64_in _ (by omega)
            exact ret3_int (by rw [← e]; exact HG'.out) (by simp) rfl
        · have h9 : i < 9 := by
            rcases Nat.lt_or_ge i 9 with h9 | h9
            · exact h9
            · have := hx9 (by omega); omega
          have g9 : ((i : Int) == 9) = false := beq_eq_false_iff_ne.2 (by omega)
          have gx : (x == 0) = false := beq_eq_false_iff_ne.2 (by omega)
          clear hx9 hx00
          have hn := acc_next (y := x.toNat % 128) (by omega) hacc'.out
          have hn' : Hid (acc + x.toNat % 128 * 128 ^ i < 128 ^ (i + 1)) := hn
          clear hn
          by_cases h0 : i = 0
          · have g0 : ¬ (0 < i) := by omega
            clear h0
            go_wp2_with fail
            refine ⟨⟨i + 1, acc + x.toNat % 128 * 128 ^ i, ?_, by go_num, by omega, by omega, hn'.out, ?_⟩, by simp [intOf]; omega⟩
            · exact congrArg _ HG'.out
            · rw [← HT.out, tk_go hbad'.out h128]; rfl
          · have g0 : 0 < i := by omega
            clear h0
            go_wp2_with fail
            refine ⟨⟨i + 1, acc + x.toNat % 128 * 128 ^ i, ?_, by go_num, by omega, by omega, hn'.out, ?_⟩, by simp [intOf]; omega⟩
            · exact congrArg _ HG'.out
            · rw [← HT.out, tk_go hbad'.out h128]; rfl
    · obtain hi : p + i = b.length := by omega
      rw [hi, List.drop_length, tk_nil] at ht
      have HT : Hid ((0, 0, 180) = take (b.drop p)) := ht
      clear ht hi
      go_wp2_with fail
      go_ret3
      rw [← HT.out]
      exact ret3_int rfl rfl rfl
end Go.Proofs.Ytghpiofjejhegaa
