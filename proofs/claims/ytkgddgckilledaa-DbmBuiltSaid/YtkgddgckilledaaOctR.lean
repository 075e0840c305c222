/- The walk of Check, of the package gnomonref12. -/
import Derived.Test.YtkgddgckilledaaOctC
namespace Go.Proofs.Ytkgddgckilledaa
open Go.RowKit
set_option linter.unusedVariables false
set_option linter.unusedSimpArgs false
open Gn
theorem ref11_Is (a : Int) (w : World) :
    Calls Try.prog 52 #[.int .i64 a] w fun e w' => e = .returned (.bool (isB a)) ∧ w = w' := by
  by_cases h1 : a = 9223372036854775807
  · subst h1
    go_enter Try.func52, Try.ntmps52
    go_wp2
    go_ret
    exact ret1_bool (by simp [isB])
  · have h1' : (a == 9223372036854775807) = false := beq_eq_false_iff_ne.2 h1
    go_enter Try.func52, Try.ntmps52
    go_wp2
    all_goals
      go_ret
      exact ret1_bool (by simp [isB, h1]; omega)
set_option maxHeartbeats 2000000 in
theorem ref_Check (A : Option Addr) (c : Nat) (N : Int) (E : Bool) (M : List Int) (w : World) (h : OctIn w w.heap.size A c N M) :
    Calls Try.prog 22 #[.agg #[.int .i64 N, .bool E, .slice A M.length c]] w fun e w' => e = .returned (.int .i64 (chk N E M)) ∧ Below w.heap.size w w' := by
  obtain ⟨hN, hr, hi64, hc, hcm⟩ := h
  have hB1 : Below w.heap.size w (w.alloc (.cells #[.int .i64 N, .bool E, .slice A M.length c] /-T-/24)) := (Below.refl _ _).alloc (Nat.le_refl _) _
  by_cases hn : 0 ≤ N ∧ N ≤ 64
  · obtain ⟨n, rfl⟩ := Int.eq_ofNat_of_zero_le hn.1
    have hn64 : n ≤ 64 := by omega
    clear hn hN
    rcases E with _ | _
    · have hq : 4 * n * n ≤ 16384 := by
        have := Nat.mul_le_mul hn64 hn64
        rw [Nat.mul_assoc]; omega
      have eq : 4 * (n : Int) * (n : Int) = ((4 * n * n : Nat) : Int) := by push_cast; rfl
      by_cases hl : M.length = 4 * n * n
      · have hl' : ((M.length : Int) != ((4 * n * n : Nat) : Int)) = false := by rw [hl]; simp
        have hlen : M.length = (2 * n) * (2 * n) := by rw [hl, sq2]
        have hMq : M.length ≤ 16384 := by omega
        have HL := Lib.hid hlen
        clear hlen hl
        generalize 4 * n * n = q at *
        go_enter Try.func22, Try.ntmps22
        go_wp2_with fail
        have hb0 : (w.alloc (.cells #[.int .i64 n, .bool false, .slice A M.length c] /-T-/24)).cell? ⟨w.heap.size, 0, none⟩ = some (.int .i64 n) := by simp [World.cell?_alloc_new]
        have hb2 : (w.alloc (.cells #[.int .i64 n, .bool false, .slice A M.length c] /-T-/24)).cell? ⟨w.heap.size, 2, none⟩ = some (.slice A M.length c) := by simp [World.cell?_alloc_new]
        have hsz : (w.alloc (.cells #[.int .i64 n, .bool false, .slice A M.length c] /-T-/24)).heap.size = w.heap.size + 1 := by simp
        have hr1 := hr.below hB1
        generalize (w.alloc (.cells #[.int .i64 n, .bool false, .slice A M.length c] /-T-/24)) = w1 at *
        clear hr eq hq
        go_loopw [4] (fun s wr => ∃ i : Nat, s = .int .i64 i ∧ i ≤ 2 * n ∧ (∀ i', i' < i → ∀ j, j < 2 * n → okC (2 * n) M i' j) ∧ Below w1.heap.size w1 wr) (fun s _ => 2 * n - (intOf s).toNat)
        case atStart => exact ⟨0, rfl, by omega, fun _ h => absurd h (by omega), Below.refl _ _⟩
        case round =>
          obtain ⟨i, rfl, hi, hok, hBr⟩ := hrel
          rcases Nat.lt_or_ge i (2 * n) with hlt | hge
          · go_wp2
            go_loopw [5] (fun s wq => ∃ j : Nat, s = .int .i64 j ∧ j ≤ 2 * n ∧ (∀ j', j' < j → okC (2 * n) M i j') ∧ Below w1.heap.size w1 wq) (fun s _ => 2 * n - (intOf s).toNat)
            case atStart => exact ⟨0, rfl, by omega, fun _ h => absurd h (by omega), hBr⟩
            case round =>
              obtain ⟨j, rfl, hj, hokj, hBq⟩ := hrel
              clear hBr
              have hd0 := (hBq.cell (p := ⟨w.heap.size, 0, none⟩) (by simp; omega)).trans hb0
              have hd2 := (hBq.cell (p := ⟨w.heap.size, 2, none⟩) (by simp; omega)).trans hb2
              have hqs := hBq.size
              rcases Nat.lt_or_ge j (2 * n) with hjt | hjge
              · have HO := Lib.hid hok
                have HOj := Lib.hid hokj
                clear hok hokj
                have hi2 := ac_lt hlt
                have hj2 := ac_lt hjt
                have cAi := fun W => ref_Across i W (by omega)
                have cAj := fun W => ref_Across j W (by omega)
                have hp : i * (2 * n) + j < M.length := by rw [HL.out]; exact idx_lt hlt hjt
                have hp' : ac j * (2 * n) + ac i < M.length := by rw [HL.out]; exact idx_lt hj2 hi2
                have hCC : ∀ v v', cl (2 * n) M i j = v → cl (2 * n) M (ac j) (ac i) = v' → (okC (2 * n) M i j ↔ (isB v = true ∧ (i = j → v = 0) ∧ v = v')) := by
                  rintro v v' rfl rfl; exact Iff.rfl
                have hCC := hCC _ _ rfl rfl
                unfold cl at hCC
                obtain ⟨g, off, rfl, hg, hcell⟩ := (hr1.below (hBq.mono (by omega))) (by omega)
                have hcv := hcell _ hp
                have hcv' := hcell _ hp'
                have hvi := hi64 _ (nth_mem hp)
                have HCC := Lib.hid hCC
                have e1 : (i : Int) * (2 * (n : Int)) = ((i * (2 * n) : Nat) : Int) := by push_cast; rfl
                have e2 : ((ac j : Nat) : Int) * (2 * (n : Int)) = ((ac j * (2 * n) : Nat) : Int) := by push_cast; rfl
                generalize nth M (i * (2 * n) + j) = v at *
                generalize nth M (ac j * (2 * n) + ac i) = v' at *
                have b1 : i * (2 * n) + j < 16384 := by omega
                have b2 : ac j * (2 * n) + ac i < 16384 := by omega
                clear hcell hCC hvi
                generalize i * (2 * n) = p at *
                generalize ac j * (2 * n) = p' at *
                generalize ac i = ai at *
                generalize ac j = aj at *
                have bI := fun W => ref11_Is v W
                have hBw := hB1.trans (hBq.mono (by omega))
                have hqw := hBw.size
                have HBw := Lib.hid hBw
                clear hBw
                have key : (isB v = false ∧ ¬ okC (2 * n) M i j) ∨ (isB v = true ∧ ((((i : Int) == j) = true ∧ (v != 0) = true ∧ ¬ okC (2 * n) M i j) ∨ (((i : Int) == j) = true ∧ (v != 0) = false ∧ (v != v') = true ∧ ¬ okC (2 * n) M i j) ∨ (((i : Int) == j) = false ∧ (v != v') = true ∧ ¬ okC (2 * n) M i j)
                    ∨ (((i : Int) == j) = true ∧ (v != 0) = false ∧ (v != v') = false ∧ okC (2 * n) M i j) ∨ (((i : Int) == j) = false ∧ (v != v') = false ∧ okC (2 * n) M i j))) := by
                  rw [HCC.out]
                  simp only [beq_iff_eq, bne_iff_ne, beq_eq_false_iff_ne, bne_eq_false_iff_eq, Int.natCast_inj, ne_eq]
                  cases isB v <;> by_cases x1 : i = j <;> by_cases x2 : v = 0 <;> by_cases x3 : v = v' <;> simp [x1, x2, x3] <;> omega
                rcases key with ⟨b1, hx⟩ | ⟨b1, ⟨b2, b3, hx⟩ | ⟨b2, b3, b4, hx⟩ | ⟨b2, b4, hx⟩ | ⟨b2, b3, b4, hx⟩ | ⟨b2, b4, hx⟩⟩ <;> (rw [b1] at bI; clear b1)
                all_goals have HX := Lib.hid hx
                all_goals clear hx
                all_goals go_wp2_with fail
                all_goals have a0 := After.cell hd0
                all_goals have a2 := After.cell hd2
                all_goals have a4 := After.cell hcv'
                all_goals refine wp_region_after (by kernel_rfl) (by kernel_rfl) ?_
                all_goals repeat (go_big_quiet_step (first | (go_at_call 52; exact after_same (bI _)) | (go_at_call 53; with_reducible exact after_same (cAj _)) | (go_at_call 53; exact after_same (cAi _))))
                all_goals refine wpQuiet_nil ?_
                all_goals intro w'' hB9
                all_goals have hend : Hid (Below w.heap.size w w'' ∧ Below w1.heap.size w1 w'') := Lib.hid ⟨HBw.out.trans (hB9.mono hqw), hBq.trans (hB9.mono hqs)⟩
                all_goals clear hB9 a0 a2 a4
                all_goals go_wp2
                iterate 4
                  · go_ret
                    exact ⟨by rw [chk_bad hn64 (by rw [HL.out, sq2]) (fun H => HX.out (H i hlt j hjt))]; rfl, hend.out.1⟩
                all_goals
                  go_roundw
                  case rel => exact ⟨j + 1, by go_num, by omega, fun j' h' => by
                    rcases Nat.lt_or_ge j' j with h | h
                    · exact HOj.out j' h
                    · obtain rfl : j' = j := by omega
                      exact HX.out, hend.out.2⟩
                  case measure => simp [intOf]; omega
              · obtain rfl : j = 2 * n := by omega
                have HO := Lib.hid hok
                have HOj := Lib.hid hokj
                clear hok hokj
                go_wp2_with fail
                go_roundw
                case rel => exact ⟨i + 1, by go_num, by omega, fun i' h' => by
                  rcases Nat.lt_or_ge i' i with h | h
                  · exact HO.out i' h
                  · obtain rfl : i' = i := by omega
                    exact HOj.out, hBq⟩
                case measure => simp [intOf]; omega
          · obtain rfl : i = 2 * n := by omega
            have HO := Lib.hid hok
            clear hok
            go_wp2_with fail
            go_ret
            exact ⟨by rw [chk_ok hn64 (by rw [HL.out, sq2]) HO.out]; rfl, hB1.trans (hBr.mono (by omega))⟩
      · rw [chk_size (by right; right; right; exact ⟨rfl, by rw [eq]; omega⟩)]
        have hl' : ((M.length : Int) != ((4 * n * n : Nat) : Int)) = true := by simp; omega
        generalize 4 * n * n = q at *
        go_enter Try.func22, Try.ntmps22
        go_wp2_with fail
        go_ret
        exact ⟨rfl, hB1⟩
    · rcases Nat.eq_zero_or_pos M.length with h0 | h0
      · obtain rfl := List.eq_nil_of_length_eq_zero h0
        rw [chk_empty hn64]
        go_enter Try.func22, Try.ntmps22
        go_wp2_with fail
        go_ret
        exact ⟨rfl, hB1⟩
      · rw [chk_size (by right; right; left; exact ⟨rfl, h0⟩)]
        have h0' : ((M.length : Int) != 0) = true := bne_iff_ne.2 (by omega)
        go_enter Try.func22, Try.ntmps22
        go_wp2_with fail
        go_ret
        exact ⟨rfl, hB1⟩
  · rw [chk_size (by omega)]
    by_cases hlo : N < 0
    all_goals
      go_enter Try.func22, Try.ntmps22
      go_wp2_with fail
      go_ret
      exact ⟨rfl, hB1⟩
end Go.Proofs.Ytkgddgckilledaa
