/- Walks: the known values of layer 12, and the statement DbmChecks. -/
import Derived.Test.YtkgddgckilledaaHau
import Derived.Test.YtkgddgckilledaaOctF
import Derived.Deep.RegionHeld3
namespace Go.Proofs.Ytkgddgckilledaa
open Go.RowKit
set_option linter.unusedVariables false
set_option linter.unusedSimpArgs false
open Gn
theorem Ow.oct {w : World} {base c : Nat} {A : Option Addr} {N : Int} {M : List Int} (h : Ow w base 2 .i64 A c M) (hN : I64 N) (hM : ∀ x ∈ M, I64 x) : OctIn w w.heap.size A c N M :=
  ⟨hN, h.rd, hM, h.cap, h.capMax⟩
set_option maxHeartbeats 2000000 in
theorem known12 (w : World) : Calls Try.prog 9 #[] w fun e w' => e = .returned (.bool true) ∧ Below w.heap.size w w' := by
  have cT := dbm_Top 1 w (by omega)
  go_enter Try.func9, Try.ntmps9
  go_wp2_with fail
  refine cT.mono ?_
  clear cT
  rintro e w1 ⟨g, M, hM0, rfl, ho, hb1⟩
  have hM : M = [0, 9223372036854775807, 9223372036854775807, 0] := by rw [hM0]; decide
  have hMi : ∀ x ∈ M, I64 x := by rw [hM]; decide
  have hP : withP 1 false M 0 1 6 = ((1, false, [0, 6, 9223372036854775807, 0]), 0) := by rw [hM]; decide
  have hMl : (M.length : Int) ≤ 17592186043904 := by rw [hM]; decide
  clear hM hM0
  have hal : ∀ o, Below w1.heap.size w1 (w1.alloc o) := fun o => (Below.refl _ _).alloc (Nat.le_refl _) _
  have cW := fun o => dbm_With 1 false (some ⟨g, 0, none⟩) M.length M 0 1 6 (w1.alloc o) ((ho.alloc o).oct (by unfold I64; omega) hMi) hMl
  rw [hP] at cW
  clear hP hMi
  go_wp2_with fail
  refine (cW _).mono ?_
  clear cW
  rintro e w2 ⟨A2, c2, rfl, ho2, hb2⟩
  have hB2 := hb1.trans ((hal _).trans (hb2.mono (by simp)) |>.mono hb1.size)
  clear ho hb1 hb2 hal
  have hL2 : hasO 1 false [0, 6, 9223372036854775807, 0] [3] = true ∧ hasO 1 false [0, 6, 9223372036854775807, 0] [4] = false := by decide
  have hLi : ∀ x ∈ ([0, 6, 9223372036854775807, 0] : List Int), I64 x := by decide
  have hll : ([0, 6, 9223372036854775807, 0] : List Int).length = 4 := rfl
  dsimp only at ho2 ⊢
  have hlit := fun (X : World) => Ow.lit X X.heap.size 2 .i64 [0, 6, 9223372036854775807, 0] (Nat.le_refl _) (by unfold maxLen; simp)
  obtain ⟨L, hL⟩ : ∃ L, L = ([0, 6, 9223372036854775807, 0] : List Int) := ⟨_, rfl⟩
  rw [← hL] at ho2 hL2 hLi hll hlit ⊢
  have h3 := fun (X : World) => Ow.lit X X.heap.size 2 .i64 [3] (Nat.le_refl _) (by unfold maxLen; simp)
  have h4 := fun (X : World) => Ow.lit X X.heap.size 2 .i64 [4] (Nat.le_refl _) (by unfold maxLen; simp)
  have HL := Lib.hid hL
  clear hL
  rw [hll]
  go_wp2_with fail
  obtain ⟨wa, hwa⟩ : ∃ wa, wa = w2.alloc (.cells #[.int .i64 1, .bool false, .slice A2 4 c2] /-T-/24) := ⟨_, rfl⟩
  obtain ⟨w3, hw3⟩ : ∃ w3, w3 = wa.alloc (.cells #[.int .i64 0, .int .i64 6, .int .i64 9223372036854775807, .int .i64 0] /-T-/2) := ⟨_, rfl⟩
  have hsa : wa.heap.size = w2.heap.size + 1 := by rw [hwa]; simp
  have hOa : OctAt wa w2.heap.size 1 false (.slice A2 4 c2) := by rw [hwa]; exact OctAt.box _ _ _ _ _
  have hBa : Below w2.heap.size w2 wa := by rw [hwa]; exact (Below.refl _ _).alloc (Nat.le_refl _) _
  have hB3 : Below wa.heap.size wa w3 := by rw [hw3]; exact (Below.refl _ _).alloc (Nat.le_refl _) _
  have hl3 : Ow w3 wa.heap.size 2 .i64 (some ⟨wa.heap.size, 0, none⟩) L.length L := by rw [hw3, HL.out]; exact Ow.lit wa wa.heap.size 2 .i64 [0, 6, 9223372036854775807, 0] (Nat.le_refl _) (by unfold maxLen; simp)
  have ho3 := (ho2.below hBa).below hB3
  have hO3 := hOa.below hB3
  have hs3 := hB3.size
  have hBw := hB2.trans ((hBa.trans (hB3.mono hBa.size)).mono hB2.size)
  rw [← hwa, ← hsa, ← hw3]
  clear hwa hw3 hOa hBa hB3 hB2 ho2
  have cL := help_Longs A2 (some ⟨wa.heap.size, 0, none⟩) c2 4 L L w3 ho3.rd hl3.rd (by omega) (by omega)
  rw [decide_eq_true (show L = L from rfl), hll] at cL
  refine cL.mono ?_
  clear cL hl3
  rintro e w4 ⟨rfl, hb4⟩
  have ho4 := ho3.below hb4
  have hO4 := hO3.below hb4
  have hB4 := hBw.trans (hb4.mono hBw.size)
  obtain ⟨p0, p1, p2⟩ := id hO4
  clear hb4 ho3 hO3 hBw
  go_wp2_with fail
  obtain ⟨w5, hw5⟩ : ∃ w5, w5 = w4.alloc (.cells #[.int .i64 3] /-T-/2) := ⟨_, rfl⟩
  have hb5 : Below w4.heap.size w4 w5 := by rw [hw5]; exact (Below.refl _ _).alloc (Nat.le_refl _) _
  have h5 : Ow w5 w4.heap.size 2 .i64 (some ⟨w4.heap.size, 0, none⟩) 1 [3] := by rw [hw5]; exact h3 w4
  have ho5 := ho4.below hb5
  have hO5 := hO4.below hb5
  have hB5 := hB4.trans (hb5.mono hB4.size)
  rw [← hw5]
  clear hw5 hb5 ho4 hO4 hB4 p0 p1 p2
  have cH := dbm_Has 1 false A2 c2 L (some ⟨w4.heap.size, 0, none⟩) 1 [3] w5 (ho5.oct (by unfold I64; omega) hLi) h5.rd (by decide) (by simp)
  rw [hL2.1, hll] at cH
  refine cH.mono ?_
  clear cH h5
  rintro e w6 ⟨rfl, hb6⟩
  have ho6 := ho5.below hb6
  have hO6 := hO5.below hb6
  have hB6 := hB5.trans (hb6.mono hB5.size)
  obtain ⟨p0, p1, p2⟩ := id hO6
  clear hb6 ho5 hO5 hB5
  go_wp2_with fail
  obtain ⟨w7, hw7⟩ : ∃ w7, w7 = w6.alloc (.cells #[.int .i64 4] /-T-/2) := ⟨_, rfl⟩
  have hb7 : Below w6.heap.size w6 w7 := by rw [hw7]; exact (Below.refl _ _).alloc (Nat.le_refl _) _
  have h7 : Ow w7 w6.heap.size 2 .i64 (some ⟨w6.heap.size, 0, none⟩) 1 [4] := by rw [hw7]; exact h4 w6
  have ho7 := ho6.below hb7
  have hB7 := hB6.trans (hb7.mono hB6.size)
  rw [← hw7]
  clear hw7 hb7 ho6 hO6 hB6 p0 p1 p2
  have cH := dbm_Has 1 false A2 c2 L (some ⟨w6.heap.size, 0, none⟩) 1 [4] w7 (ho7.oct (by unfold I64; omega) hLi) h7.rd (by decide) (by simp)
  rw [hL2.2, hll] at cH
  refine cH.mono ?_
  clear cH h7
  rintro e w8 ⟨rfl, hb8⟩
  have hB8 := hB7.trans (hb8.mono hB7.size)
  clear hb8 hB7
  go_wp2_with fail
  go_ret
  exact ⟨rfl, hB8⟩
theorem help_Oct_nil (N : Int) (E : Bool) (w : World) : Calls Try.prog 16 #[.agg #[.int .i64 N, .bool E, .slice none 0 0], .agg #[.int .i64 N, .bool E, .slice none 0 0]] w fun e w' => e = .returned (.bool true) ∧ Below w.heap.size w w' := by
  have cX := help_Oct N N E E none none 0 0 [] [] w Rd.zero Rd.zero (by simp) (by simp)
  rw [decide_eq_true ⟨rfl, rfl, rfl⟩] at cX
  exact cX
theorem below_go {A B C : World} (h : Below A.heap.size A B) (k : Below B.heap.size B C) : Below A.heap.size A C := h.trans (k.mono h.size)
theorem two_octs (w : World) (t : TypeId) (N N' : Int) (E E' : Bool) (v v' : Value) : ∃ W, W = (w.alloc (.cells #[.int .i64 N, .bool E, v] t)).alloc (.cells #[.int .i64 N', .bool E', v'] t) ∧
    OctAt W w.heap.size N E v ∧ OctAt W (w.heap.size + 1) N' E' v' ∧ Below w.heap.size w W ∧ W.heap.size = w.heap.size + 2 := two_boxes w t N N' E E' v v'
end Go.Proofs.Ytkgddgckilledaa
