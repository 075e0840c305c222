/- Walks: Put and Take of the packages code and gnomonref18. -/
import Derived.Test.YtghpiofjejhegaaNumW
import Derived.Test.YtghpiofjejhegaaCodB
namespace Go.Proofs.Ytghpiofjejhegaa
open Go.RowKit
open Gn
theorem Try.elU8 : ElTy Try.prog 23 5 (.int .u8 0) 1 := ⟨Try.underlying23, by kernel_rfl, rfl, by decide⟩
theorem ret_slice {A : Option Addr} {m n c : Nat} (h : m = n) : Ending.returned (.slice A m c) = .returned (.slice A n c) := by rw [h]
theorem val_slice {A : Option Addr} {m n c : Nat} (h : m = n) : Value.slice A m c = .slice A n c := by rw [h]
theorem ret3_int {k l m : IntKind} {x y z x' y' z' : Int} {w : World} (h1 : x = x') (h2 : y = y') (h3 : z = z') : (Ending.returned (.tuple #[.int k x, .int l y, .int m z]) = .returned (.tuple #[.int k x', .int l y', .int m z'])) ∧ w = w := by subst h1 h2 h3; exact ⟨rfl, rfl⟩
set_option maxRecDepth 100000 in
theorem code_Put (n : Nat) (w : World) (hn : (n : Int) ≤ 18446744073709551615) :
    Calls Try.prog 14 #[.int .u64 n] w fun e w' => ∃ A c, e = .returned (.slice A (put n).length c) ∧ Ow w' w.heap.size 5 .u8 A c (put n) ∧ Below w.heap.size w w' := by
  have hl := put_len10 hn
  have hE := Try.elU8
  go_enter Try.func14, Try.ntmps14
  go_wp2
  go_loopw [0, 3] (fun x v wr => ∃ m : Nat, x = .int .u64 m ∧ (m : Int) ≤ 18446744073709551615 ∧ ∃ A c, ∃ xs : List Int, xs ++ put m = put n ∧ v = .slice A xs.length c ∧ Ow wr w.heap.size 5 .u8 A c xs ∧ Below w.heap.size w wr)
    (fun x _ _ => (intOf x).toNat)
  case atStart => exact ⟨n, rfl, hn, none, 0, [], rfl, rfl, Ow.nil _ _ _ _, Below.refl _ _⟩
  case round =>
    obtain ⟨m, rfl, hm, A, c, xs, hx, rfl, hown, hb⟩ := hrel
    have hbs := hb.size
    have hxl : xs.length + (put m).length = (put n).length := by rw [← hx, List.length_append]
    have hpm := put_pos m
    have hsz : (xs.length + 1) * 1 ≤ 140737488355328 := by omega
    clear hxl hpm
    have HX : Hid (xs ++ put m = put n) := hx
    clear hx
    by_cases h : m < 128
    · go_wp2_with (at_builtin; refine wpList_app1 hE wr rfl _ _ rfl w.heap.size .u8 A c xs rfl hown m rfl hsz hbs ?_; intro A' c' w1 hown' hb')
      go_ret
      have hx := HX.out
      rw [put_small h] at hx
      rw [hx] at hown'
      exact ⟨A', c', ret_slice (by rw [← hx]; simp), hown', hb.trans hb'⟩
    · have ho := or128 m
      have HO : Hid (bits .or .u8 ((m : Int) % 256) 128 = ((128 + m % 128 : Nat) : Int)) := ho
      clear ho
      go_wp2_with (at_builtin; refine wpList_app1 hE wr rfl _ _ rfl w.heap.size .u8 A c xs rfl hown _ rfl hsz hbs ?_; intro A' c' w1 hown' hb'; rw [HO.out] at hown')
      refine ⟨⟨m / 128, by go_num, by omega, A', c', xs ++ [((128 + m % 128 : Nat) : Int)], ?_, val_slice (by simp), hown', hb.trans hb'⟩, by simp [intOf]; omega⟩
      rw [← HX.out, put_big h, List.append_assoc]; rfl
set_option maxRecDepth 100000 in
theorem ref_Put (n : Nat) (w : World) (hn : (n : Int) ≤ 18446744073709551615) :
    Calls Try.prog 41 #[.int .u64 n] w fun e w' => ∃ A c, e = .returned (.slice A (put n).length c) ∧ Ow w' w.heap.size 5 .u8 A c (put n) ∧ Below w.heap.size w w' := by
  have hl := put_len10 hn
  have hE := Try.elU8
  go_enter Try.func41, Try.ntmps41
  go_wp2
  go_loopw [0, 3] (fun x v wr => ∃ m : Nat, x = .int .u64 m ∧ (m : Int) ≤ 18446744073709551615 ∧ ∃ A c, ∃ xs : List Int, xs ++ put m = put n ∧ v = .slice A xs.length c ∧ Ow wr w.heap.size 5 .u8 A c xs ∧ Below w.heap.size w wr)
    (fun x _ _ => (intOf x).toNat)
  case atStart => exact ⟨n, rfl, hn, none, 0, [], rfl, rfl, Ow.nil _ _ _ _, Below.refl _ _⟩
  case round =>
    obtain ⟨m, rfl, hm, A, c, xs, hx, rfl, hown, hb⟩ := hrel
    have hbs := hb.size
    have hxl : xs.length + (put m).length = (put n).length := by rw [← hx, List.length_append]
    have hpm := put_pos m
    have hsz : (xs.length + 1) * 1 ≤ 140737488355328 := by omega
    clear hxl hpm
    have HX : Hid (xs ++ put m = put n) := hx
    clear hx
    by_cases h : m < 128
    · go_wp2_with (at_builtin; refine wpList_app1 hE wr rfl _ _ rfl w.heap.size .u8 A c xs rfl hown m rfl hsz hbs ?_; intro A' c' w1 hown' hb')
      go_ret
      have hx := HX.out
      rw [put_small h] at hx
      rw [hx] at hown'
      exact ⟨A', c', ret_slice (by rw [← hx]; simp), hown', hb.trans hb'⟩
    · go_wp2_with (at_builtin; refine wpList_app1 hE wr rfl _ _ rfl w.heap.size .u8 A c xs rfl hown _ rfl hsz hbs ?_; intro A' c' w1 hown' hb')
      refine ⟨⟨m / 128, by go_num, by omega, A', c', xs ++ [((128 + m % 128 : Nat) : Int)], ?_, val_slice (by simp), ?_, hb.trans hb'⟩, by simp [intOf]; omega⟩
      · rw [← HX.out, put_big h, List.append_assoc]; rfl
      · rw [show ((128 + m % 128 : Nat) : Int) = 128 + (m : Int) % 128 by omega]; exact hown'
theorem tk_nil (i acc : Nat) : tk i acc [] = (0, 0, 180) := rfl
theorem tk_long {i acc : Nat} {x : Int} {r : List Int} (h : (i = 9 ∧ 1 < x) ∨ (0 < i ∧ x = 0)) : tk i acc (x :: r) = (0, 0, 181) := by rw [tk, if_pos h]
theorem tk_stop {i acc : Nat} {x : Int} {r : List Int} (h : ¬ ((i = 9 ∧ 1 < x) ∨ (0 < i ∧ x = 0))) (h1 : x < 128) : tk i acc (x :: r) = (acc + x.toNat % 128 * 128 ^ i, i + 1, 0) := by rw [tk, if_neg h, if_pos h1]
theorem tk_go {i acc : Nat} {x : Int} {r : List Int} (h : ¬ ((i = 9 ∧ 1 < x) ∨ (0 < i ∧ x = 0))) (h1 : ¬ x < 128) : tk i acc (x :: r) = tk (i + 1) (acc + x.toNat % 128 * 128 ^ i) r := by rw [tk, if_neg h, if_neg h1]
set_option maxHeartbeats 1000000 in
set_option maxRecDepth 100000 in
theorem code_Take (A : Option Addr) (c : Nat) (b : List Int) (w : World) (hb : Bts b) (hr : Rd w w.heap.size .u8 A b.length (nth b)) (hl : (b.length : Int) ≤ 140737488351232) :
    Calls Try.prog 13 #[.slice A b.length c] w fun e w' => e = .returned (.tuple #[.int .u64 (take b).1, .int .i64 (take b).2.1, .int .i64 (take b).2.2]) ∧ w = w' := by
  go_enter Try.func13, Try.ntmps13
  go_wp2
  go_step3
  go_wp2
  go_step3
  go_wp2
  go_loop [5, 6, 7] (fun n e at_ => ∃ i acc : Nat, n = .int .u64 acc ∧ e = .int .i64 180 ∧ at_ = .int .i64 i ∧ i ≤ b.length ∧ i ≤ 9 ∧ acc < 128 ^ i ∧ tk i acc (b.drop i) = take b)
    (fun _ _ at_ => b.length - (intOf at_).toNat)
  case atStart => exact ⟨0, 0, rfl, rfl, rfl, by omega, by omega, by omega, rfl⟩
  case round =>
    obtain ⟨i, acc, rfl, rfl, rfl, hi, hi9, hacc, ht⟩ := hrel
    rcases Nat.lt_or_ge i b.length with hlt | hge
    · obtain ⟨g, off, rfl, _, hc⟩ := hr (by omega)
      have hci := hc i hlt
      clear hc hr
      have hx := hb _ (nth_mem hlt)
      obtain ⟨hx0, hx1⟩ := hx
      generalize hxv : nth b i = x at *
      rw [drop_nth hlt, hxv] at ht
      have HT : Hid (tk i acc (x :: b.drop (i + 1)) = take b) := ht
      clear ht hxv hb
      by_cases hbad : (i = 9 ∧ 1 < x) ∨ (0 < i ∧ x = 0)
      · rcases hbad with ⟨rfl, h1⟩ | ⟨h1, rfl⟩
        · go_wp2_with fail
          go_ret3
          rw [← HT.out, tk_long (by omega)]
          exact ret3_int rfl rfl rfl
        · rcases Nat.lt_or_ge i 9 with h9 | h9
          · have g9 : ((i : Int) == 9) = false := beq_eq_false_iff_ne.2 (by omega)
            go_wp2_with fail
            go_ret3
            rw [← HT.out, tk_long (by omega)]
            exact ret3_int rfl rfl rfl
          · obtain rfl : i = 9 := by omega
            go_wp2_with fail
            go_ret3
            rw [← HT.out, tk_long (by omega)]
            exact ret3_int rfl rfl rfl
      · have hx9 : i = 9 → x ≤ 1 := fun h => by omega
        have hx00 : 0 < i → x ≠ 0 := fun h => by omega
        have HG := take_group hx0 hx1 hi9 hx9 hacc
        have HG' : Hid (bits .or .u64 (acc : Int) (IntKind.u64.wrap (IntKind.u64.wrap (bits .andNot .u8 x 128) * 2 ^ (7 * i))) = ((acc + x.toNat % 128 * 128 ^ i : Nat) : Int)) := HG
        clear HG
        have hacc' : Hid (acc < 128 ^ i) := hacc
        clear hacc
        have hbad' : Hid (¬ ((i = 9 ∧ 1 < x) ∨ (0 < i ∧ x = 0))) := hbad
        clear hbad
        by_cases h128 : x < 128
        · rcases Nat.lt_or_ge i 9 with h9 | h9
          · have g9 : ((i : Int) == 9) = false := beq_eq_false_iff_ne.2 (by omega)
            by_cases h0 : i = 0
            · have g0 : ¬ (0 < i) := by omega
              clear h0 hx9 hx00
              go_wp2_with fail
              go_ret3
              rw [← HT.out, tk_stop hbad'.out h128]
              exact ret3_int HG'.out (by simp) rfl
            · have g0 : 0 < i := by omega
              have gx : (x == 0) = false := beq_eq_false_iff_ne.2 (hx00 g0)
              clear h0 hx9 hx00
              go_wp2_with fail
              go_ret3
              rw [← HT.out, tk_stop hbad'.out h128]
              exact ret3_int HG'.out (by simp) rfl
          · obtain rfl : i = 9 := by omega
            have gx : (x == 0) = false := beq_eq_false_iff_ne.2 (hx00 (by omega))
            have gx1 : ¬ 1 < x := by have := hx9 rfl; omega
            clear hx9 hx00
            go_wp2_with fail
            go_ret3
            rw [← HT.out, tk_stop (by have : x ≠ 0 := by simpa using gx
                                      omega) h128]
            exact ret3_int HG'.out (by simp) rfl
        · have h9 : i < 9 := by
            rcases Nat.lt_or_ge i 9 with h9 | h9
            · exact h9
            · have := hx9 (by omega); omega
          have g9 : ((i : Int) == 9) = false := beq_eq_false_iff_ne.2 (by omega)
          have gx : (x == 0) = false := beq_eq_false_iff_ne.2 (by omega)
          clear hx9 hx00
          have hn := acc_next (y := x.toNat % 128) (by omega) hacc'.out
          have hn' : Hid (acc + x.toNat % 128 * 128 ^ i < 128 ^ (i + 1)) := hn
          clear hn
          by_cases h0 : i = 0
          · have g0 : ¬ (0 < i) := by omega
            clear h0
            go_wp2_with fail
            refine ⟨⟨i + 1, acc + x.toNat % 128 * 128 ^ i, ?_, rfl, by go_num, by omega, by omega, hn'.out, ?_⟩, by simp [intOf]; omega⟩
            · exact congrArg _ HG'.out
            · rw [← HT.out, tk_go hbad'.out h128]
          · have g0 : 0 < i := by omega
            clear h0
            go_wp2_with fail
            refine ⟨⟨i + 1, acc + x.toNat % 128 * 128 ^ i, ?_, rfl, by go_num, by omega, by omega, hn'.out, ?_⟩, by simp [intOf]; omega⟩
            · exact congrArg _ HG'.out
            · rw [← HT.out, tk_go hbad'.out h128]
    · obtain rfl : i = b.length := by omega
      rw [List.drop_length, tk_nil] at ht
      have HT : Hid ((0, 0, 180) = take b) := ht
      clear ht
      go_wp2_with fail
      go_ret3
      rw [← HT.out]
      exact ret3_int rfl rfl rfl
end Go.Proofs.Ytghpiofjejhegaa
