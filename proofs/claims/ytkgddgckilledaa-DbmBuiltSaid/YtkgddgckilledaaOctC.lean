/- The walk of Check, of the package dbm. -/
import Derived.Test.YtkgddgckilledaaOctW
import Derived.Test.YtkgddgckilledaaQb
namespace Go.Proofs.Ytkgddgckilledaa
open Go.RowKit
set_option linter.unusedVariables false
set_option linter.unusedSimpArgs false
open Gn
/-- An octagon's cells, as they lie in memory. -/
structure OctIn (w : World) (B : Nat) (A : Option Addr) (c : Nat) (N : Int) (M : List Int) : Prop where
  hN : I64 N
  rd : Rd w B .i64 A M.length (nth M)
  i64 : ∀ x ∈ M, I64 x
  le : M.length ≤ c
  max : c ≤ maxLen
theorem chk_size {N : Int} {E : Bool} {M : List Int} (h : N < 0 ∨ 64 < N ∨ (E = true ∧ 0 < M.length) ∨ (E = false ∧ (M.length : Int) ≠ 4 * N * N)) : chk N E M = 120 := by unfold chk; rw [if_pos h]
theorem chk_empty {n : Nat} (h : n ≤ 64) : chk n true [] = 0 := by unfold chk; rw [if_neg (by simp; omega), if_pos rfl]
theorem chk_bad {n : Nat} {M : List Int} (h : n ≤ 64) (hl : M.length = 4 * n * n) (hb : ¬ okM (2 * n) M) : chk n false M = 121 := by
  unfold chk; rw [if_neg (by rw [hl]; push_cast; simp; omega), if_neg (by simp), if_neg (by simpa using hb)]
theorem chk_ok {n : Nat} {M : List Int} (h : n ≤ 64) (hl : M.length = 4 * n * n) (hb : okM (2 * n) M) : chk n false M = 0 := by
  unfold chk; rw [if_neg (by rw [hl]; push_cast; simp; omega), if_neg (by simp), if_pos (by simpa using hb)]
set_option maxHeartbeats 2000000 in
theorem dbm_Check (A : Option Addr) (c : Nat) (N : Int) (E : Bool) (M : List Int) (w : World) (h : OctIn w w.heap.size A c N M) :
    Calls Try.prog 19 #[.agg #[.int .i64 N, .bool E, .slice A M.length c]] w fun e w' => e = .returned (.int .i64 (chk N E M)) ∧ Below w.heap.size w w' := by
  obtain ⟨hN, hr, hi64, hc, hcm⟩ := h
  have cR := fun W => dbm_right N W
  have hB1 : Below w.heap.size w (w.alloc (.cells #[.int .i64 N, .bool E, .slice A M.length c] /-T-/24)) := (Below.refl _ _).alloc (Nat.le_refl _) _
  by_cases hn : 0 ≤ N ∧ N ≤ 64
  · have hd : decide (0 ≤ N ∧ N ≤ 64) = true := decide_eq_true hn
    rw [hd] at cR
    clear hd
    obtain ⟨n, rfl⟩ := Int.eq_ofNat_of_zero_le hn.1
    have hn64 : n ≤ 64 := by omega
    clear hn hN
    rcases E with _ | _
    · have hq : 4 * n * n ≤ 16384 := by
        have := Nat.mul_le_mul hn64 hn64
        rw [Nat.mul_assoc]; omega
      have eq : 4 * (n : Int) * (n : Int) = ((4 * n * n : Nat) : Int) := by push_cast; rfl
      by_cases hl : M.length = 4 * n * n
      · have hl' : ((M.length : Int) != ((4 * n * n : Nat) : Int)) = false := by rw [hl]; simp
        have hlen : M.length = (2 * n) * (2 * n) := by rw [hl, sq2]
        have hMq : M.length ≤ 16384 := by omega
        have HL := Lib.hid hlen
        clear hlen hl
        generalize 4 * n * n = q at *
        go_enter Try.func19, Try.ntmps19
        go_wp2_with (first | (go_at_call 41; with_reducible refine (cR _).mono ?_; rintro e w' ⟨rfl, rfl⟩))
        have hb0 : (w.alloc (.cells #[.int .i64 n, .bool false, .slice A M.length c] /-T-/24)).cell? ⟨w.heap.size, 0, none⟩ = some (.int .i64 n) := by simp [World.cell?_alloc_new]
        have hb2 : (w.alloc (.cells #[.int .i64 n, .bool false, .slice A M.length c] /-T-/24)).cell? ⟨w.heap.size, 2, none⟩ = some (.slice A M.length c) := by simp [World.cell?_alloc_new]
        have hsz : (w.alloc (.cells #[.int .i64 n, .bool false, .slice A M.length c] /-T-/24)).heap.size = w.heap.size + 1 := by simp
        have hr1 := hr.below hB1
        generalize (w.alloc (.cells #[.int .i64 n, .bool false, .slice A M.length c] /-T-/24)) = w1 at *
        clear hr cR eq hq
        go_loopw [43] (fun s wr => ∃ i : Nat, s = .int .i64 i ∧ i ≤ 2 * n ∧ (∀ i', i' < i → ∀ j, j < 2 * n → okC (2 * n) M i' j) ∧ Below w1.heap.size w1 wr) (fun s _ => 2 * n - (intOf s).toNat)
        case atStart => exact ⟨0, rfl, by omega, fun _ h => absurd h (by omega), Below.refl _ _⟩
        case round =>
          obtain ⟨i, rfl, hi, hok, hBr⟩ := hrel
          have hc0 := (hBr.cell (p := ⟨w.heap.size, 0, none⟩) (by simp; omega)).trans hb0
          rcases Nat.lt_or_ge i (2 * n) with hlt | hge
          · go_wp2
            go_loopw [49] (fun s wq => ∃ j : Nat, s = .int .i64 j ∧ j ≤ 2 * n ∧ (∀ j', j' < j → okC (2 * n) M i j') ∧ Below w1.heap.size w1 wq) (fun s _ => 2 * n - (intOf s).toNat)
            case atStart => exact ⟨0, rfl, by omega, fun _ h => absurd h (by omega), hBr⟩
            case round =>
              obtain ⟨j, rfl, hj, hokj, hBq⟩ := hrel
              clear hc0 hBr
              have hd0 := (hBq.cell (p := ⟨w.heap.size, 0, none⟩) (by simp; omega)).trans hb0
              have hd2 := (hBq.cell (p := ⟨w.heap.size, 2, none⟩) (by simp; omega)).trans hb2
              have hqs := hBq.size
              rcases Nat.lt_or_ge j (2 * n) with hjt | hjge
              · have HO := Lib.hid hok
                have HOj := Lib.hid hokj
                clear hok hokj
                have hi2 := ac_lt hlt
                have hj2 := ac_lt hjt
                have cA := fun W => cell_at i j n W (by omega) (by omega) (by omega)
                have cA' := fun W => cell_at (ac j) (ac i) n W (by omega) (by omega) (by omega)
                have cMi := fun W => cell_mirror i j W (by omega) (by omega)
                have hp : i * (2 * n) + j < M.length := by rw [HL.out]; exact idx_lt hlt hjt
                have hp' : ac j * (2 * n) + ac i < M.length := by rw [HL.out]; exact idx_lt hj2 hi2
                have hCC : ∀ v v', cl (2 * n) M i j = v → cl (2 * n) M (ac j) (ac i) = v' → (okC (2 * n) M i j ↔ (isB v = true ∧ (i = j → v = 0) ∧ v = v')) := by
                  rintro v v' rfl rfl; exact Iff.rfl
                have hCC := hCC _ _ rfl rfl
                unfold cl at hCC
                obtain ⟨g, off, rfl, hg, hcell⟩ := (hr1.below (hBq.mono (by omega))) (by omega)
                have hcv := hcell _ hp
                have hcv' := hcell _ hp'
                have hvi := hi64 _ (nth_mem hp)
                have HCC := Lib.hid hCC
                clear hcell hCC
                generalize i * (2 * n) + j = p at *
                generalize ac j * (2 * n) + ac i = p' at *
                generalize nth M p = v at *
                generalize nth M p' = v' at *
                generalize ac i = ai at *
                generalize ac j = aj at *
                go_wp2_with fail
                have k0 := (World.cell?_alloc_lt wr (.cells #[.int .i64 i, .int .i64 j] /-T-/64) ⟨w.heap.size, 0, none⟩ (by simp; omega)).trans hd0
                have k2 := (World.cell?_alloc_lt wr (.cells #[.int .i64 i, .int .i64 j] /-T-/64) ⟨w.heap.size, 2, none⟩ (by simp; omega)).trans hd2
                have k3 := (World.cell?_alloc_lt wr (.cells #[.int .i64 i, .int .i64 j] /-T-/64) ⟨g, off + p, none⟩ (by simp; omega)).trans hcv
                have k4 := (World.cell?_alloc_lt wr (.cells #[.int .i64 i, .int .i64 j] /-T-/64) ⟨g, off + p', none⟩ (by simp; omega)).trans hcv'
                have k5 : (wr.alloc (.cells #[.int .i64 i, .int .i64 j] /-T-/64)).cell? ⟨wr.heap.size, 0, none⟩ = some (.int .i64 i) := by simp [World.cell?_alloc_new]
                have k6 : (wr.alloc (.cells #[.int .i64 i, .int .i64 j] /-T-/64)).cell? ⟨wr.heap.size, 1, none⟩ = some (.int .i64 j) := by simp [World.cell?_alloc_new]
                have k7 : (wr.alloc (.cells #[.int .i64 i, .int .i64 j] /-T-/64)).heap.size = wr.heap.size + 1 := by simp
                have k8 : Below w1.heap.size w1 (wr.alloc (.cells #[.int .i64 i, .int .i64 j] /-T-/64)) := hBq.alloc hqs _
                generalize (wr.alloc (.cells #[.int .i64 i, .int .i64 j] /-T-/64)) = w2 at *
                clear hd0 hd2 hcv hcv' hBq
                have q1 : (p : Int) < (M.length : Int) := by omega
                have q2 : (p' : Int) < (M.length : Int) := by omega
                have q3 : (0 : Int) ≤ (p : Int) := by omega
                have q4 : (0 : Int) ≤ (p' : Int) := by omega
                have a0 := After.cell k0
                have a2 := After.cell k2
                have a3 := After.cell k3
                have a5 := After.cell k5
                have a6 := After.cell k6
                refine wp_region_after (by kernel_rfl) (by kernel_rfl) ?_
                repeat (go_big_quiet_step ((go_at_call 36; exact after_of (cA _))))
                refine wpQuiet_nil ?_
                intro w' hB7
                have m0 := below_cell hB7 k0
                have m2 := below_cell hB7 k2
                have m4 := below_cell hB7 k4
                have m5 := below_cell hB7 k5
                have m6 := below_cell hB7 k6
                have hk8 := k8.size
                have hB8 := k8.trans (hB7.mono hk8)
                have h7s := hB7.size
                clear k0 k2 k3 k4 k5 k6 cA hB7 a0 a2 a3 a5 a6
                have hfin : Hid (Below w.heap.size w w') := Lib.hid (hB1.trans (hB8.mono (by omega)))
                have key : (isB v = false ∧ ¬ okC (2 * n) M i j) ∨ (isB v = true ∧ ((((i : Int) == j) = true ∧ (v != 0) = true ∧ ¬ okC (2 * n) M i j) ∨ (((i : Int) == j) = true ∧ (v != 0) = false ∧ (v != v') = true ∧ ¬ okC (2 * n) M i j) ∨ (((i : Int) == j) = false ∧ (v != v') = true ∧ ¬ okC (2 * n) M i j)
                    ∨ (((i : Int) == j) = true ∧ (v != 0) = false ∧ (v != v') = false ∧ okC (2 * n) M i j) ∨ (((i : Int) == j) = false ∧ (v != v') = false ∧ okC (2 * n) M i j))) := by
                  rw [HCC.out]
                  simp only [beq_iff_eq, bne_iff_ne, beq_eq_false_iff_ne, bne_eq_false_iff_eq, Int.natCast_inj, ne_eq]
                  cases isB v <;> by_cases x1 : i = j <;> by_cases x2 : v = 0 <;> by_cases x3 : v = v' <;> simp [x1, x2, x3] <;> omega
                have bI := fun W => bound_Is v W
                rcases key with ⟨b1, hx⟩ | ⟨b1, ⟨b2, b3, hx⟩ | ⟨b2, b3, b4, hx⟩ | ⟨b2, b4, hx⟩ | ⟨b2, b3, b4, hx⟩ | ⟨b2, b4, hx⟩⟩ <;> (rw [b1] at bI; clear b1)
                all_goals have HX := Lib.hid hx
                all_goals clear hx
                all_goals go_wp2_with fail
                all_goals have a0 := After.cell m0
                all_goals have a2 := After.cell m2
                all_goals have a4 := After.cell m4
                all_goals have a5 := After.cell m5
                all_goals have a6 := After.cell m6
                all_goals refine wp_region_after (by kernel_rfl) (by kernel_rfl) ?_
                all_goals repeat (go_big_quiet_step (first | (go_at_call 47; exact after_same (bI _)) | (go_at_call 34; exact after_of (cMi _)) | (go_at_call 36; exact after_of (cA' _))))
                all_goals refine wpQuiet_nil ?_
                all_goals intro w'' hB9
                all_goals have hend : Hid (Below w.heap.size w w'' ∧ Below w1.heap.size w1 w'') := Lib.hid ⟨hfin.out.trans (hB9.mono (by have := hfin.out.size; omega)), hB8.trans (hB9.mono (by have := hB8.size; omega))⟩
                all_goals clear hB9 a0 a2 a4 a5 a6
                all_goals go_wp2
                iterate 4
                  · go_ret
                    exact ⟨by rw [chk_bad hn64 (by rw [HL.out, sq2]) (fun H => HX.out (H i hlt j hjt))]; rfl, hend.out.1⟩
                all_goals
                  go_roundw
                  case rel => exact ⟨j + 1, by go_num, by omega, fun j' h' => by
                    rcases Nat.lt_or_ge j' j with h | h
                    · exact HOj.out j' h
                    · obtain rfl : j' = j := by omega
                      exact HX.out, hend.out.2⟩
                  case measure => simp [intOf]; omega
              · obtain rfl : j = 2 * n := by omega
                have HO := Lib.hid hok
                have HOj := Lib.hid hokj
                clear hok hokj
                go_wp2_with fail
                go_roundw
                case rel => exact ⟨i + 1, by go_num, by omega, fun i' h' => by
                  rcases Nat.lt_or_ge i' i with h | h
                  · exact HO.out i' h
                  · obtain rfl : i' = i := by omega
                    exact HOj.out, hBq⟩
                case measure => simp [intOf]; omega
          · obtain rfl : i = 2 * n := by omega
            have HO := Lib.hid hok
            clear hok
            go_wp2_with fail
            go_ret
            exact ⟨by rw [chk_ok hn64 (by rw [HL.out, sq2]) HO.out]; rfl, hB1.trans (hBr.mono (by omega))⟩
      · rw [chk_size (by right; right; right; exact ⟨rfl, by rw [eq]; omega⟩)]
        have hl' : ((M.length : Int) != ((4 * n * n : Nat) : Int)) = true := by simp; omega
        generalize 4 * n * n = q at *
        go_enter Try.func19, Try.ntmps19
        go_wp2_with (first | (go_at_call 41; with_reducible refine (cR _).mono ?_; rintro e w' ⟨rfl, rfl⟩))
        go_ret
        exact ⟨rfl, hB1⟩
    · rcases Nat.eq_zero_or_pos M.length with h0 | h0
      · obtain rfl := List.eq_nil_of_length_eq_zero h0
        rw [chk_empty hn64]
        go_enter Try.func19, Try.ntmps19
        go_wp2_with (first | (go_at_call 41; with_reducible refine (cR _).mono ?_; rintro e w' ⟨rfl, rfl⟩))
        go_ret
        exact ⟨rfl, hB1⟩
      · rw [chk_size (by right; right; left; exact ⟨rfl, h0⟩)]
        go_enter Try.func19, Try.ntmps19
        go_wp2_with (first | (go_at_call 41; with_reducible refine (cR _).mono ?_; rintro e w' ⟨rfl, rfl⟩))
        go_ret
        exact ⟨rfl, hB1⟩
  · have hd : decide (0 ≤ N ∧ N ≤ 64) = false := decide_eq_false hn
    rw [hd] at cR
    rw [chk_size (by omega)]
    clear hd
    go_enter Try.func19, Try.ntmps19
    go_wp2_with (first | (go_at_call 41; with_reducible refine (cR _).mono ?_; rintro e w' ⟨rfl, rfl⟩))
    go_ret
    exact ⟨rfl, hB1⟩
end Go.Proofs.Ytkgddgckilledaa
