/- The walk of known, of the statements about closing: one octagon closed. -/
import Derived.Test.YtgganboepfikiaaCos
import Derived.Test.YtgganboepfikiaaDbk
namespace Go.Proofs.Ytgganboepfikiaa
open Go.RowKit
set_option linter.unusedVariables false
set_option linter.unusedSimpArgs false
open Gn
theorem ref_BoundB (n : Nat) (g c : Nat) (M : List Int) (i j : Nat) (b : Int) (w : World) (base : Nat) (hn : n ≤ 64) (hM : M.length = (2 * n) * (2 * n)) (ho : Ow w base 2 .i64 (some ⟨g, 0, none⟩) c M) (hi : i < 2 * n) (hj : j < 2 * n) (hij : i ≠ j) (hb : base ≤ w.heap.size) :
    Calls Try.prog 18 #[.agg #[.int .i64 n, .bool false, .slice (some ⟨g, 0, none⟩) M.length c], .int .i64 i, .int .i64 j, .int .i64 b] w fun e w' =>
      e = .returned (.agg #[.int .i64 n, .bool false, .slice (some ⟨g, 0, none⟩) M.length c]) ∧ Ow w' base 2 .i64 (some ⟨g, 0, none⟩) c (boundM (2 * n) M i j b) ∧ Below base w w' := by
  refine (ref_Bound n g c M i j b w base hn hM ho hi hj hij).mono ?_
  rintro e w' ⟨rfl, ho', hG⟩
  exact ⟨rfl, ho', only_back hG hb ho.blockGe.1⟩
namespace Gn
def knM : List Int := [0, 9223372036854775807, 1, 9223372036854775807, 9223372036854775807, 0, 9223372036854775807, 9223372036854775807, 9223372036854775807, 9223372036854775807, 0, 4, 9223372036854775807, 1, 9223372036854775807, 0]
def knC : List Int := [0, 6, 1, 5, 9223372036854775807, 0, 9223372036854775807, 9223372036854775807, 9223372036854775807, 5, 0, 4, 9223372036854775807, 1, 9223372036854775807, 0]
theorem kn_bound : boundM 4 (boundM 4 (topM 4) 0 2 1) 2 3 4 = knM := by decide +kernel
theorem kn_close : closeP 2 false knM = (((2, false, knC), false), 0) := by decide +kernel
theorem kn_len : knC.length = 16 := rfl
theorem kn_1 : nth knC 1 = 6 := rfl
theorem kn_3 : nth knC 3 = 5 := rfl
theorem kn_i : ∀ v ∈ knM, I64 v := by decide +kernel
theorem kn_m : knM.length = 16 := rfl
end Gn
set_option maxHeartbeats 2000000 in
theorem known13 (w : World) : Calls Try.prog 16 #[] w fun e w' => e = .returned (.bool true) ∧ Below w.heap.size w w' := by
  have E0 : ((0 : Nat) : Int) = 0 := rfl
  have E2 : ((2 : Nat) : Int) = 2 := rfl
  have E3 : ((3 : Nat) : Int) = 3 := rfl
  have cT := ref_Top 2 w (by omega)
  rw [E2] at cT
  go_enter Try.func16, Try.ntmps16
  go_wp2_with fail
  refine cT.mono ?_
  clear cT
  rintro e w1 ⟨g, M, hM0, rfl, ho, hb1⟩
  have hl : M.length = 2 * 2 * (2 * 2) := by rw [hM0]; exact topM_len _
  have c1 := ref_BoundB 2 g M.length M 0 2 1 w1 w.heap.size (by omega) hl ho (by omega) (by omega) (by omega) hb1.size
  rw [E0, E2] at c1
  have HK := Lib.hid (show boundM (2 * 2) (boundM (2 * 2) M 0 2 1) 2 3 4 = knM by rw [hM0]; exact kn_bound)
  have hl2 : (boundM (2 * 2) M 0 2 1).length = 2 * 2 * (2 * 2) := by rw [boundM_len, hl]
  have hl3 : M.length = (boundM (2 * 2) M 0 2 1).length := by rw [boundM_len]
  have hl16 : M.length = 16 := hl
  have hl216 : (boundM (2 * 2) M 0 2 1).length = 16 := hl2
  generalize boundM (2 * 2) M 0 2 1 = M2 at *
  rw [hl16] at c1 ⊢
  clear hM0 hl ho hl3 hl16
  go_wp2_with fail
  refine c1.mono ?_
  clear c1
  rintro e w2 ⟨rfl, ho2, hb2⟩
  have hB2 := hb1.trans hb2
  rw [← hl216] at ho2
  clear hb1 hb2
  have c2 := ref_BoundB 2 g M2.length M2 2 3 4 w2 w.heap.size (by omega) hl2 ho2 (by omega) (by omega) (by omega) hB2.size
  rw [E2, E3] at c2
  rw [HK.out] at c2
  rw [hl216] at c2
  clear hl216
  clear HK hl2 ho2
  go_wp2_with fail
  refine c2.mono ?_
  clear c2
  rintro e w3 ⟨rfl, ho3, hb3⟩
  have hB3 := hB2.trans hb3
  clear hB2 hb3
  go_wp2_with fail
  obtain ⟨w4, hw4⟩ : ∃ w4, w4 = w3.alloc (.cells #[.int .i64 2, .bool false, .slice (some ⟨g, 0, none⟩) 16 16] /-T-/26) := ⟨_, rfl⟩
  have hb4 : Below w3.heap.size w3 w4 := by rw [hw4]; exact (Below.refl _ _).alloc (Nat.le_refl _) _
  have ho4 := ho3.below hb4
  have hB4 := hB3.trans (hb4.mono hB3.size)
  rw [← hw4]
  clear hw4 hb4 ho3 hB3
  have c3 := close_Close 2 false (some ⟨g, 0, none⟩) 16 knM w4 (ho4.oct (by unfold I64; omega) kn_i) (by rw [kn_m]; omega)
  rw [kn_close, kn_m] at c3
  refine c3.mono ?_
  clear c3
  rintro e w5 ⟨A5, c5, rfl, ho5, hb5⟩
  have hB5 := hB4.trans (hb5.mono hB4.size)
  clear hb5 ho4 hB4
  dsimp only at ho5 ⊢
  obtain ⟨g5, rfl, hg5, hg5'⟩ := ho5.blockOf (by rw [kn_len]; omega)
  rw [kn_len]
  have h1 := ho5.cellAt (i := 1) (by rw [kn_len]; omega)
  have h3 := ho5.cellAt (i := 3) (by rw [kn_len]; omega)
  rw [kn_1] at h1
  rw [kn_3] at h3
  have cC := fun W => close_Cost 2 W
  rw [show costV 2 = 64 by decide] at cC
  clear ho5
  go_wp2_with fail
  refine (cC _).mono ?_
  rintro e w6 ⟨rfl, hb6⟩
  clear cC h1 h3
  have hB6 := (hB5.alloc hB5.size _).trans (hb6.mono (by simp; have := hB5.size; omega))
  clear hb6
  go_wp2_with fail
  go_ret
  exact ⟨rfl, hB6⟩
end Go.Proofs.Ytgganboepfikiaa
