/- Walks: Top and Empty, of the packages dbm and gnomonref12. -/
import Derived.Test.YtkgddgckilledaaOctW
import Derived.Test.YtkgddgckilledaaMem
import Derived.Test.YtkgddgckilledaaQb
import Derived.Deep.OwnRows
namespace Go.Proofs.Ytkgddgckilledaa
open Go.RowKit
set_option linter.unusedVariables false
set_option linter.unusedSimpArgs false
open Gn
theorem Try.elI64 : ElTy Try.prog 22 2 (.int .i64 0) 8 := ⟨Try.underlying22, by kernel_rfl, rfl, by decide⟩
theorem sq_le {n : Nat} (h : n ≤ 64) : 4 * n * n ≤ 16384 := by
  have := Nat.mul_le_mul h h
  rw [Nat.mul_assoc]; omega
theorem make_i64 (q : Nat) (h : q ≤ 16384) (w : World) :
    (Instr.makeSlice 22 (.int .i64 (q : Int)) (.int .i64 (q : Int))).run Try.prog w = .ok (.slice (some ⟨w.heap.size, 0, none⟩) q q) (w.alloc (.cells (madeCells #[.int .i64 0] q) /-T-/2)) :=
  run_make_row' (P := Try.prog) /-T-/22 /-T-/2 (.int .i64 0) 8 Try.elI64.ht Try.elI64.info rfl .i64 .i64 q (by omega) (by omega) w
theorem dbm_Empty (n : Nat) (w : World) (hn : n ≤ 64) :
    Calls Try.prog 18 #[.int .i64 n] w fun e w' => e = .returned (.tuple #[.agg #[.int .i64 n, .bool true, .slice none 0 0], .int .i64 0]) ∧ Below w.heap.size w w' := by
  have cR := fun W => dbm_right n W
  rw [show decide ((0 : Int) ≤ n ∧ (n : Int) ≤ 64) = true from decide_eq_true (by omega)] at cR
  go_enter Try.func18, Try.ntmps18
  go_wp2_with (go_at_call 41; with_reducible refine (cR _).mono ?_; rintro e w' ⟨rfl, rfl⟩)
  exact bodyPost_ret (v := .tuple #[.agg #[.int .i64 n, .bool true, .slice none 0 0], .int .i64 0]) (by simp [results, Try.results18, go_sem]) rfl ⟨rfl, (Below.refl _ _).alloc (Nat.le_refl _) _⟩
theorem dbm_Empty_bad (n : Int) (w : World) (hn : ¬ (0 ≤ n ∧ n ≤ 64)) :
    Calls Try.prog 18 #[.int .i64 n] w fun e w' => e = .returned (.tuple #[.agg #[.int .i64 0, .bool false, .slice none 0 0], .int .i64 120]) ∧ Below w.heap.size w w' := by
  have cR := fun W => dbm_right n W
  rw [show decide ((0 : Int) ≤ n ∧ (n : Int) ≤ 64) = false from decide_eq_false hn] at cR
  clear hn
  go_enter Try.func18, Try.ntmps18
  go_wp2_with (go_at_call 41; with_reducible refine (cR _).mono ?_; rintro e w' ⟨rfl, rfl⟩)
  exact bodyPost_ret (v := .tuple #[.agg #[.int .i64 0, .bool false, .slice none 0 0], .int .i64 120]) (by simp [results, Try.results18, go_sem]) rfl ⟨rfl, (Below.refl _ _).alloc (Nat.le_refl _) _⟩
theorem ref_Empty (n : Int) (w : World) :
    Calls Try.prog 45 #[.int .i64 n] w fun e w' => e = .returned (.agg #[.int .i64 n, .bool true, .slice none 0 0]) ∧ Below w.heap.size w w' := by
  go_enter Try.func45, Try.ntmps45
  go_wp2_with fail
  exact bodyPost_ret (v := .agg #[.int .i64 n, .bool true, .slice none 0 0]) (by simp [results, Try.results45, go_sem]) rfl ⟨rfl, (Below.refl _ _).alloc (Nat.le_refl _) _⟩
theorem dbm_Top_bad (n : Int) (w : World) (hn : ¬ (0 ≤ n ∧ n ≤ 64)) :
    Calls Try.prog 17 #[.int .i64 n] w fun e w' => e = .returned (.tuple #[.agg #[.int .i64 0, .bool false, .slice none 0 0], .int .i64 120]) ∧ Below w.heap.size w w' := by
  have cR := fun W => dbm_right n W
  rw [show decide ((0 : Int) ≤ n ∧ (n : Int) ≤ 64) = false from decide_eq_false hn] at cR
  clear hn
  go_enter Try.func17, Try.ntmps17
  go_wp2_with (go_at_call 41; with_reducible refine (cR _).mono ?_; rintro e w' ⟨rfl, rfl⟩)
  exact bodyPost_ret (v := .tuple #[.agg #[.int .i64 0, .bool false, .slice none 0 0], .int .i64 120]) (by simp [results, Try.results17, go_sem]) rfl ⟨rfl, (Below.refl _ _).alloc (Nat.le_refl _) _⟩
theorem topM_of {m : Nat} {X : List Int} (hx : X.length = m * m) (h : ∀ i, i < m → ∀ j, j < m → cl m X i j = if i = j then 0 else 9223372036854775807) : X = topM m := eq_mat hx h
set_option maxHeartbeats 1000000 in
theorem ref_Top (n : Nat) (w : World) (hn : n ≤ 64) :
    Calls Try.prog 46 #[.int .i64 n] w fun e w' => ∃ g M, M = topM (2 * n) ∧ e = .returned (.agg #[.int .i64 n, .bool false, .slice (some ⟨g, 0, none⟩) M.length M.length]) ∧ Ow w' w.heap.size 2 .i64 (some ⟨g, 0, none⟩) M.length M ∧ Below w.heap.size w w' := by
  have hq := sq_le hn
  have hlen : 4 * n * n = (2 * n) * (2 * n) := (sq2 n).symm
  have eq : 4 * (n : Int) * (n : Int) = ((4 * n * n : Nat) : Int) := by push_cast; rfl
  have hmk := make_i64 (4 * n * n) hq
  have HL := Lib.hid hlen
  clear hlen
  generalize 4 * n * n = q at *
  go_enter Try.func46, Try.ntmps46
  go_wp2_with fail
  obtain ⟨w1, hw1⟩ : ∃ w1, w1 = ((w.alloc (.cells #[.int .i64 0, .bool false, .slice none 0 0] /-T-/24)).alloc (.cells (madeCells #[.int .i64 0] q) /-T-/2)).alloc (.cells #[.int .i64 n, .bool false, .slice (some ⟨w.heap.size + 1, 0, none⟩) q q] /-T-/24) := ⟨_, rfl⟩
  have hs : w1.heap.size = w.heap.size + 3 := by rw [hw1]; simp
  have k0 : w1.cell? ⟨w.heap.size + 1 + 1, 0, none⟩ = some (.int .i64 n) := by rw [hw1]; simp [go_sem]
  have k1 : w1.cell? ⟨w.heap.size + 1 + 1, 1, none⟩ = some (.bool false) := by rw [hw1]; simp [go_sem]
  have k2 : w1.cell? ⟨w.heap.size + 1 + 1, 2, none⟩ = some (.slice (some ⟨w.heap.size + 1, 0, none⟩) q q) := by rw [hw1]; simp [go_sem]
  have r0 : w1.cell? ⟨w.heap.size, 0, none⟩ = some (.int .i64 0) := by rw [hw1]; simp [go_sem]
  have r1 : w1.cell? ⟨w.heap.size, 1, none⟩ = some (.bool false) := by rw [hw1]; simp [go_sem]
  have r2 : w1.cell? ⟨w.heap.size, 2, none⟩ = some (.slice none 0 0) := by rw [hw1]; simp [go_sem]
  have f0 : ∀ i, w1.frozen? ⟨w.heap.size, i, none⟩ = false := by intro i; rw [hw1]; simp [go_sem]
  have ho : Ow w1 w.heap.size 2 .i64 (some ⟨w.heap.size + 1, 0, none⟩) q (List.replicate q 0) := by
    rw [hw1]
    have := Ow.made (w.alloc (.cells #[.int .i64 0, .bool false, .slice none 0 0] /-T-/24)) w.heap.size q 2 .i64 (by simp) (by unfold maxLen; omega)
    rw [show (w.alloc (.cells #[.int .i64 0, .bool false, .slice none 0 0] /-T-/24)).heap.size = w.heap.size + 1 by simp] at this
    exact this.alloc _
  have hB : Below w.heap.size w w1 := by rw [hw1]; exact (((Below.refl _ _).alloc (Nat.le_refl _) _).alloc (by simp) _).alloc (by simp; omega) _
  rw [← hw1]
  clear hw1 hmk
  go_loopw [4] (fun s wr => ∃ i : Nat, s = .int .i64 i ∧ i ≤ 2 * n ∧ w1.grownBy wr (some (w.heap.size + 1)) ∧ ∃ X : List Int, X.length = q ∧ Ow wr w.heap.size 2 .i64 (some ⟨w.heap.size + 1, 0, none⟩) q X ∧ ∀ a, a < 2 * n → ∀ b, b < 2 * n → cl (2 * n) X a b = if a < i ∧ a ≠ b then 9223372036854775807 else 0) (fun s _ => 2 * n - (intOf s).toNat)
  case atStart =>
    exact ⟨0, rfl, by omega, World.grownBy.refl _ _, _, List.length_replicate, ho, fun a ha b hb => by
      rw [if_neg (by omega)]
      unfold cl nth
      rw [List.getD_eq_getElem?_getD, List.getElem?_replicate]
      split <;> rfl⟩
  case round =>
    rename_i wr _ _
    obtain ⟨i, rfl, hi, hG, X, hX, hO, hXc⟩ := hrel
    rcases Nat.lt_or_ge i (2 * n) with hlt | hge
    · go_wp2
      go_loopw [5] (fun s wr => ∃ j : Nat, s = .int .i64 j ∧ j ≤ 2 * n ∧ w1.grownBy wr (some (w.heap.size + 1)) ∧ ∃ X : List Int, X.length = q ∧ Ow wr w.heap.size 2 .i64 (some ⟨w.heap.size + 1, 0, none⟩) q X ∧ ∀ a, a < 2 * n → ∀ b, b < 2 * n → cl (2 * n) X a b = if (a < i ∨ a = i ∧ b < j) ∧ a ≠ b then 9223372036854775807 else 0) (fun s _ => 2 * n - (intOf s).toNat)
      case atStart =>
        exact ⟨0, rfl, by omega, hG, X, hX, hO, fun a ha b hb => by rw [hXc a ha b hb]; congr 1; simp⟩
      case round =>
        clear hG hX hO hXc
        obtain ⟨j, rfl, hj, hG, Y, hY, hO, hYc⟩ := hrel
        rcases Nat.lt_or_ge j (2 * n) with hjt | hjge
        · have HYc := Lib.hid hYc
          by_cases hij : i = j
          · have hb : ((i : Int) != j) = false := bne_eq_false_iff_eq.2 (by omega)
            have HY := Lib.hid hY
            have HG := Lib.hid hG
            have HO := Lib.hid hO
            clear hYc hY hG hO
            go_wp2_with fail
            go_roundw
            case rel => exact ⟨j + 1, by go_num, by omega, HG.out, Y, HY.out, HO.out, fun a ha b hb => by rw [HYc.out a ha b hb]; congr 1; simp; omega⟩
            case measure => simp [intOf]; omega
          · have hb : ((i : Int) != j) = true := bne_iff_ne.2 (by omega)
            have hlt' := HL.out ▸ idx_lt hlt hjt
            have c2 := only_cell hG k2 (by simp)
            have cx := hO.cellAt' hY (i := i * (2 * n) + j) hlt'
            have cf := hO.frozenAt' (i * (2 * n) + j)
            have ei : (i : Int) * 2 * (n : Int) = ((i * (2 * n) : Nat) : Int) := by push_cast; rw [Int.mul_assoc]
            have hO' := hO.set' (i * (2 * n) + j) 9223372036854775807
            have hG' := only_setCell (p := ⟨w.heap.size + 1, i * (2 * n) + j, none⟩) hG (.inl rfl) (.int .i64 9223372036854775807)
            have hYl : Y.length = (2 * n) * (2 * n) := by rw [hY, HL.out]
            have hcl := fun a b (hb : b < 2 * n) => cl_set (i' := a) (v := 9223372036854775807) hYl hlt hjt hb
            have hsl : (Y.set (i * (2 * n) + j) 9223372036854775807).length = q := by rw [List.length_set, hY]
            have HC := Lib.hid hcl
            have HS := Lib.hid hsl
            have HO' := Lib.hid hO'
            have HG' := Lib.hid hG'
            clear hYc hG hO hO' hG' hcl hsl hY hYl
            generalize Y.set (i * (2 * n) + j) 9223372036854775807 = Z at *
            generalize i * (2 * n) = p at *
            have hp : p + j < 16384 := by omega
            go_wp2_with fail
            go_roundw
            case rel => exact ⟨j + 1, by go_num, by omega, HG'.out, Z, HS.out, HO'.out, fun a ha b hb => by
              rw [HC.out a b hb]
              by_cases hc : a = i ∧ b = j
              · rw [if_pos hc, if_pos (by omega)]
              · rw [if_neg hc, HYc.out a ha b hb]; congr 1; simp; omega⟩
            case measure => simp [intOf]; omega
        · obtain rfl : j = 2 * n := by omega
          have HY := Lib.hid hY
          have HYc := Lib.hid hYc
          clear hY hYc
          go_wp2_with fail
          go_roundw
          case rel => exact ⟨i + 1, by go_num, by omega, hG, Y, HY.out, hO, fun a ha b hb => by rw [HYc.out a ha b hb]; congr 1; simp; omega⟩
          case measure => simp [intOf]; omega
    · obtain rfl : i = 2 * n := by omega
      have hM : X = topM (2 * n) := topM_of (by rw [hX, HL.out]) (fun a ha b hb => by rw [hXc a ha b hb]; by_cases h : a = b <;> simp [h, ha])
      have HM := Lib.hid hM
      have HX := Lib.hid hX
      have c0 := only_cell hG k0 (by simp)
      have c1 := only_cell hG k1 (by simp)
      have c2 := only_cell hG k2 (by simp)
      have s0 := only_cell hG r0 (by simp)
      have s1 := only_cell hG r1 (by simp)
      have s2 := only_cell hG r2 (by simp)
      have sf := fun i => only_frozen hG (f0 i) (by simp; omega) (by simp)
      have hGs := hG.size
      have hB' : Below w.heap.size w wr := hB.trans (only_back hG (by omega) (by omega))
      clear hM hX hXc hG k0 k1 k2 r0 r1 r2 f0
      go_wp2_with fail
      refine bodyPost_ret (v := .agg #[.int .i64 n, .bool false, .slice (some ⟨w.heap.size + 1, 0, none⟩) q q]) (by simp [results, Try.results46, go_sem, s0, s1, s2]) rfl ?_
      refine ⟨w.heap.size + 1, X, HM.out, by rw [HX.out], ?_, ?_⟩
      · rw [HX.out]
        exact ((((hO.other' (only_setCell (World.grownBy.refl _ _) (.inl rfl) _) (by simp)).other' (only_setCell (World.grownBy.refl _ _) (.inl rfl) _) (by simp)).other' (only_setCell (World.grownBy.refl _ _) (.inl rfl) _) (by simp)))
      · exact ((hB'.setCell (by simp) _).setCell (by simp) _).setCell (by simp) _
set_option maxHeartbeats 1000000 in
theorem dbm_Top (n : Nat) (w : World) (hn : n ≤ 64) :
    Calls Try.prog 17 #[.int .i64 n] w fun e w' => ∃ g M, M = topM (2 * n) ∧ e = .returned (.tuple #[.agg #[.int .i64 n, .bool false, .slice (some ⟨g, 0, none⟩) M.length M.length], .int .i64 0]) ∧ Ow w' w.heap.size 2 .i64 (some ⟨g, 0, none⟩) M.length M ∧ Below w.heap.size w w' := by
  have hq := sq_le hn
  have hlen : 4 * n * n = (2 * n) * (2 * n) := (sq2 n).symm
  have eq : 4 * (n : Int) * (n : Int) = ((4 * n * n : Nat) : Int) := by push_cast; rfl
  have hmk := make_i64 (4 * n * n) hq
  have HL := Lib.hid hlen
  have cR := fun W => dbm_right n W
  rw [show decide ((0 : Int) ≤ n ∧ (n : Int) ≤ 64) = true from decide_eq_true (by omega)] at cR
  clear hlen
  generalize 4 * n * n = q at *
  go_enter Try.func17, Try.ntmps17
  go_wp2_with (go_at_call 41; with_reducible refine (cR _).mono ?_; rintro e w' ⟨rfl, rfl⟩)
  obtain ⟨w1, hw1⟩ : ∃ w1, w1 = ((w.alloc (.cells #[.int .i64 0, .bool false, .slice none 0 0] /-T-/24)).alloc (.cells (madeCells #[.int .i64 0] q) /-T-/2)).alloc (.cells #[.int .i64 n, .bool false, .slice (some ⟨w.heap.size + 1, 0, none⟩) q q] /-T-/24) := ⟨_, rfl⟩
  have hs : w1.heap.size = w.heap.size + 3 := by rw [hw1]; simp
  have k0 : w1.cell? ⟨w.heap.size + 1 + 1, 0, none⟩ = some (.int .i64 n) := by rw [hw1]; simp [go_sem]
  have k1 : w1.cell? ⟨w.heap.size + 1 + 1, 1, none⟩ = some (.bool false) := by rw [hw1]; simp [go_sem]
  have k2 : w1.cell? ⟨w.heap.size + 1 + 1, 2, none⟩ = some (.slice (some ⟨w.heap.size + 1, 0, none⟩) q q) := by rw [hw1]; simp [go_sem]
  have r0 : w1.cell? ⟨w.heap.size, 0, none⟩ = some (.int .i64 0) := by rw [hw1]; simp [go_sem]
  have r1 : w1.cell? ⟨w.heap.size, 1, none⟩ = some (.bool false) := by rw [hw1]; simp [go_sem]
  have r2 : w1.cell? ⟨w.heap.size, 2, none⟩ = some (.slice none 0 0) := by rw [hw1]; simp [go_sem]
  have f0 : ∀ i, w1.frozen? ⟨w.heap.size, i, none⟩ = false := by intro i; rw [hw1]; simp [go_sem]
  have ho : Ow w1 w.heap.size 2 .i64 (some ⟨w.heap.size + 1, 0, none⟩) q (List.replicate q 0) := by
    rw [hw1]
    have := Ow.made (w.alloc (.cells #[.int .i64 0, .bool false, .slice none 0 0] /-T-/24)) w.heap.size q 2 .i64 (by simp) (by unfold maxLen; omega)
    rw [show (w.alloc (.cells #[.int .i64 0, .bool false, .slice none 0 0] /-T-/24)).heap.size = w.heap.size + 1 by simp] at this
    exact this.alloc _
  have hB : Below w.heap.size w w1 := by rw [hw1]; exact (((Below.refl _ _).alloc (Nat.le_refl _) _).alloc (by simp) _).alloc (by simp; omega) _
  rw [← hw1]
  clear hw1 hmk cR
  go_loopw [21] (fun s wr => ∃ i : Nat, s = .int .i64 i ∧ i ≤ q ∧ w1.grownBy wr (some (w.heap.size + 1)) ∧ ∃ X : List Int, X.length = q ∧ Ow wr w.heap.size 2 .i64 (some ⟨w.heap.size + 1, 0, none⟩) q X ∧ ∀ a, a < i → nth X a = 9223372036854775807) (fun s _ => q - (intOf s).toNat)
  case atStart => exact ⟨0, rfl, by omega, World.grownBy.refl _ _, _, List.length_replicate, ho, fun a ha => absurd ha (by omega)⟩
  case round =>
    rename_i wr _ _
    obtain ⟨i, rfl, hi, hG, X, hX, hO, hXc⟩ := hrel
    rcases Nat.lt_or_ge i q with hlt | hge
    · have HXc := Lib.hid hXc
      have HG := Lib.hid hG
      have c2 := only_cell hG k2 (by simp)
      have cx := hO.cellAt' hX (i := i) hlt
      have cf := hO.frozenAt' i
      have hO' := hO.set' i 9223372036854775807
      have hG' := only_setCell (p := ⟨w.heap.size + 1, i, none⟩) hG (.inl rfl) (.int .i64 9223372036854775807)
      have hsl : (X.set i 9223372036854775807).length = q := by rw [List.length_set, hX]
      have hcl : ∀ a, a < i + 1 → nth (X.set i 9223372036854775807) a = 9223372036854775807 := fun a ha => by
        rcases Nat.lt_or_ge a i with h | h
        · rw [nth_set_ne (by omega)]; exact hXc a h
        · obtain rfl : a = i := by omega
          exact nth_set_same (by omega)
      have HC := Lib.hid hcl
      have HS := Lib.hid hsl
      have HO' := Lib.hid hO'
      have HG' := Lib.hid hG'
      clear hXc hG hO hO' hG' hcl hsl hX
      go_wp2_with fail
      go_roundw
      case rel => exact ⟨i + 1, by go_num, by omega, HG'.out, _, HS.out, HO'.out, HC.out⟩
      case measure => simp [intOf]; omega
    · obtain rfl : q = i := by omega
      have hcell : ∀ a, a < 2 * n → ∀ b, b < 2 * n → cl (2 * n) X a b = 9223372036854775807 := fun a ha b hb => hXc _ (by rw [HL.out]; exact idx_lt ha hb)
      have HC := Lib.hid hcell
      have HX := Lib.hid hX
      have c2 := only_cell hG k2 (by simp)
      clear hX hXc hcell
      go_wp2
      clear c2
      rename_i wr0 _ _ _
      go_loopw [31] (fun s wr => ∃ i : Nat, s = .int .i64 i ∧ i ≤ 2 * n ∧ w1.grownBy wr (some (w.heap.size + 1)) ∧ ∃ X : List Int, X.length = q ∧ Ow wr w.heap.size 2 .i64 (some ⟨w.heap.size + 1, 0, none⟩) q X ∧ ∀ a, a < 2 * n → ∀ b, b < 2 * n → cl (2 * n) X a b = if a < i ∧ a = b then 0 else 9223372036854775807) (fun s _ => 2 * n - (intOf s).toNat)
      case atStart =>
        exact ⟨0, rfl, by omega, hG, X, HX.out, hO, fun a ha b hb => by rw [HC.out a ha b hb, if_neg (by omega)]⟩
      case round =>
        rename_i wr _ _
        clear hG hO HC HX
        obtain ⟨i, rfl, hi, hG, X, hX, hO, hXc⟩ := hrel
        rcases Nat.lt_or_ge i (2 * n) with hlt | hge
        · have HXc := Lib.hid hXc
          have hlt' := HL.out ▸ idx_lt hlt hlt
          have c2 := only_cell hG k2 (by simp)
          have cx := hO.cellAt' hX (i := i * (2 * n) + i) hlt'
          have hXl : X.length = (2 * n) * (2 * n) := by rw [hX, HL.out]
          have hcl := fun a b (hb : b < 2 * n) => cl_set (i' := a) (v := 0) hXl hlt hlt hb
          have hsl : (X.set (i * (2 * n) + i) 0).length = q := by rw [List.length_set, hX]
          have HC := Lib.hid hcl
          have HS := Lib.hid hsl
          have HG := Lib.hid hG
          have HO := Lib.hid hO
          have cA := fun W => cell_at i i n W (by omega) (by omega) (by omega)
          clear hXc hG hO hcl hsl hX hXl
          generalize i * (2 * n) + i = p at *
          go_wp2_with fail
          have a2 := After.cell c2
          have q1 : (p : Int) < (q : Int) := by omega
          have q2 : (0 : Int) ≤ (p : Int) := by omega
          refine wp_region_mix [(8, 1)] (by kernel_rfl) (by kernel_rfl) ?_
          simp only [wpMix, List.take_succ_cons, List.take_zero, List.drop_succ_cons, List.drop_zero]
          repeat (go_big_quiet_step ((go_at_call 36; with_reducible exact after_of (cA _))))
          refine wpQuiet_nil ?_
          intro w' hb'
          have cx' := below_cell hb' cx
          have hO2 := HO.out.below hb'
          have cf := hO2.frozenAt' p
          have hO' := hO2.set' p 0
          have hG' := only_setCell (p := ⟨w.heap.size + 1, p, none⟩) (only_below HG.out hb') (.inl rfl) (.int .i64 0)
          have HO' := Lib.hid hO'
          have HG' := Lib.hid hG'
          clear hO2 hO' hG' hb' a2
          go_wp2_with fail
          refine mixQ_normal (wpQuiet_nil ?_)
          intro w2 hb2
          have HO2 := Lib.hid (HO'.out.below hb2)
          have HG2 := Lib.hid (only_below HG'.out hb2)
          clear hb2
          go_wp2_with fail
          go_roundw
          case rel => exact ⟨i + 1, by go_num, by omega, HG2.out, _, HS.out, HO2.out, fun a ha b hb => by
            rw [HC.out a b hb]
            by_cases hc : a = i ∧ b = i
            · rw [if_pos hc, if_pos (by omega)]
            · rw [if_neg hc, HXc.out a ha b hb]; congr 1; simp; omega⟩
          case measure => simp [intOf]; omega
        · obtain rfl : i = 2 * n := by omega
          have hM : X = topM (2 * n) := topM_of (by rw [hX, HL.out]) (fun a ha b hb => by rw [hXc a ha b hb]; by_cases h : a = b <;> simp [h, ha]; omega)
          have HM := Lib.hid hM
          have HX := Lib.hid hX
          have c0 := only_cell hG k0 (by simp)
          have c1 := only_cell hG k1 (by simp)
          have c2 := only_cell hG k2 (by simp)
          have s0 := only_cell hG r0 (by simp)
          have s1 := only_cell hG r1 (by simp)
          have s2 := only_cell hG r2 (by simp)
          have sf := fun i => only_frozen hG (f0 i) (by simp; omega) (by simp)
          have hGs := hG.size
          have hB' : Below w.heap.size w wr := hB.trans (only_back hG (by omega) (by omega))
          clear hM hX hXc hG k0 k1 k2 r0 r1 r2 f0
          go_wp2_with fail
          refine bodyPost_ret (v := .tuple #[.agg #[.int .i64 n, .bool false, .slice (some ⟨w.heap.size + 1, 0, none⟩) q q], .int .i64 0]) (by simp [results, Try.results17, go_sem, s0, s1, s2]) rfl ?_
          refine ⟨w.heap.size + 1, X, HM.out, by rw [HX.out], ?_, ?_⟩
          · rw [HX.out]
            exact ((((hO.other' (only_setCell (World.grownBy.refl _ _) (.inl rfl) _) (by simp)).other' (only_setCell (World.grownBy.refl _ _) (.inl rfl) _) (by simp)).other' (only_setCell (World.grownBy.refl _ _) (.inl rfl) _) (by simp)))
          · exact ((hB'.setCell (by simp) _).setCell (by simp) _).setCell (by simp) _
end Go.Proofs.Ytkgddgckilledaa
