/- Walks: how far a point's sides are apart, of the package dbm. -/
import Derived.Test.YtkogplnleiapfaaWid
namespace Go.Proofs.Ytkogplnleiapfaa
open Go.RowKit
set_option linter.unusedVariables false
set_option linter.unusedSimpArgs false
open Gn
theorem dbm_side (A : Option Addr) (c : Nat) (x : List Int) (i : Nat) (w : World) (hr : Rd w w.heap.size .i64 A x.length (nth x)) (hx : ∀ v ∈ x, I64 v) (hi : i / 2 < x.length) (hm : (x.length : Int) ≤ 9223372036854775807) (hi2 : i < 1000000) :
    Calls Try.prog 113 #[.slice A x.length c, .int .i64 i] w fun e w' => e = .returned (.agg #[.int .i64 (hiW (sideV x i)), .int .u64 (loW (sideV x i) : Nat)]) ∧ Below w.heap.size w w' := by
  have hv := hx _ (nth_mem hi)
  obtain ⟨g, off, rfl, hg, hcell⟩ := hr (by omega)
  have hcv := hcell _ hi
  have hmod : (i : Int).tmod 2 = ((i % 2 : Nat) : Int) := by rw [Int.tmod_eq_emod_of_nonneg (by omega)]; omega
  have hmod' : (i : Int) % 2 = ((i % 2 : Nat) : Int) := by omega
  have hdiv : (i : Int) / 2 = ((i / 2 : Nat) : Int) := by omega
  have hS : sideV x i = if i % 2 = 1 then -(nth x (i / 2)) else nth x (i / 2) := rfl
  clear hcell hr hx
  generalize nth x (i / 2) = v at *
  have cO := fun W => dbm_of v W hv
  obtain ⟨w1, hw1⟩ : ∃ w1, w1 = w.alloc (.cells #[.int .i64 0, .int .u64 0] /-T-/113) := ⟨_, rfl⟩
  have hb1 : Below w.heap.size w w1 := by rw [hw1]; exact (Below.refl _ _).alloc (Nat.le_refl _) _
  have r0 : w1.cell? ⟨w.heap.size, 0, none⟩ = some (.int .i64 0) := by rw [hw1]; simp [World.cell?_alloc_new]
  have r1 : w1.cell? ⟨w.heap.size, 1, none⟩ = some (.int .u64 0) := by rw [hw1]; simp [World.cell?_alloc_new]
  have rf : ∀ i, w1.frozen? ⟨w.heap.size, i, none⟩ = false := by intro i; rw [hw1]; simp [go_sem]
  have rl : w.heap.size < w1.heap.size := by rw [hw1]; simp
  have hcv1 := below_cell hb1 hcv
  have hq : i / 2 < x.length := hi
  have hlt : w.heap.size ≠ g := by omega
  have cO1 := cO w1
  clear hi
  generalize i / 2 = q at *
  by_cases h1 : i % 2 = 1
  · rw [if_pos h1] at hS
    rw [hS]
    have hb : (((i % 2 : Nat) : Int) == 1) = true := by rw [h1]; rfl
    have cL := fun W => wide_less 0 v W (by unfold Mid; omega) hv.mid
    rw [Int.zero_sub] at cL
    have cZ := fun W => dbm_of 0 W (by unfold I64; omega)
    clear hS h1
    generalize i % 2 = r at *
    generalize hiW (-v) = nh at *
    generalize loW (-v) = nl at *
    generalize hiW v = vh at *
    generalize loW v = vl at *
    generalize hiW 0 = zh at *
    generalize loW 0 = zl at *
    go_enter Try.func113, Try.ntmps113
    go_wp2_with fail
    rw [← hw1]
    refine cO1.mono ?_
    clear cO1 hw1 hcv hcv1
    rintro e w2 ⟨rfl, hb2⟩
    obtain ⟨w3, hw3⟩ : ∃ w3, w3 = w2.alloc (.cells #[.int .i64 vh, .int .u64 (vl : Nat)] /-T-/113) := ⟨_, rfl⟩
    have hb3 : Below w2.heap.size w2 w3 := by rw [hw3]; exact (Below.refl _ _).alloc (Nat.le_refl _) _
    have k0 : w3.cell? ⟨w2.heap.size, 0, none⟩ = some (.int .i64 vh) := by rw [hw3]; simp [World.cell?_alloc_new]
    have k1 : w3.cell? ⟨w2.heap.size, 1, none⟩ = some (.int .u64 (vl : Nat)) := by rw [hw3]; simp [World.cell?_alloc_new]
    have hb13 := hb2.trans (hb3.mono hb2.size)
    have r0 := below_cell hb13 r0
    have r1 := below_cell hb13 r1
    have rf := fun i => (hb13.frozen (p := ⟨w.heap.size, i, none⟩) rl).trans (rf i)
    have hB3 := hb1.trans (hb13.mono hb1.size)
    have rl3 : w.heap.size < w3.heap.size := by have := hb13.size; omega
    clear hb1 hb2 hb3 hb13
    go_wp2_with fail
    rw [← hw3]
    clear hw3
    have a0 := After.cell k0
    have a1 := After.cell k1
    refine wp_region_mix [(3, 1)] (by kernel_rfl) (by kernel_rfl) ?_
    simp only [wpMix, List.take_succ_cons, List.take_zero, List.drop_succ_cons, List.drop_zero]
    repeat (go_big_quiet_step (first | (go_at_call 98; with_reducible exact after_of (cZ _)) | (go_at_call 114; with_reducible exact after_of (cL _))))
    refine wpQuiet_nil ?_
    intro w4 hb4
    have r0 := below_cell hb4 r0
    have r1 := below_cell hb4 r1
    have rf := fun i => (hb4.frozen (p := ⟨w.heap.size, i, none⟩) rl3).trans (rf i)
    have hB4 := hB3.trans (hb4.mono hB3.size)
    have rl4 : w.heap.size < w4.heap.size := by have := hb4.size; omega
    clear a0 a1 k0 k1 cO cZ cL hB3 hb4
    go_wp2_with fail
    refine mixQ_normal (wpQuiet_nil ?_)
    intro w5 hb5
    have hB5 : Below w.heap.size w w5 := ((hB4.setCell (p := ⟨w.heap.size, 0, none⟩) (by simp) _).setCell (p := ⟨w.heap.size, 1, none⟩) (by simp) _).trans (hb5.mono (by simp; omega))
    have s0 := below_cell hb5 (p := ⟨w.heap.size, 0, none⟩) (v := .int .i64 nh) (by simp [go_sem, r0, r1])
    have s1 := below_cell hb5 (p := ⟨w.heap.size, 1, none⟩) (v := .int .u64 (nl : Nat)) (by simp [go_sem, r0, r1])
    clear hb5 r0 r1 hB4
    go_wp2_with fail
    exact bodyPost_ret (v := .agg #[.int .i64 nh, .int .u64 (nl : Nat)]) (by simp [results, Try.results113, go_sem, s0, s1]) rfl ⟨rfl, hB5⟩
  · rw [if_neg h1] at hS
    rw [hS]
    have hb : (((i % 2 : Nat) : Int) == 1) = false := beq_eq_false_iff_ne.2 (by omega)
    clear hS h1
    generalize i % 2 = r at *
    generalize hiW v = vh at *
    generalize loW v = vl at *
    go_enter Try.func113, Try.ntmps113
    go_wp2_with fail
    rw [← hw1]
    refine cO1.mono ?_
    clear cO1 hw1 hcv hcv1
    rintro e w2 ⟨rfl, hb2⟩
    have r0 := below_cell hb2 r0
    have r1 := below_cell hb2 r1
    have rf := fun i => (hb2.frozen (p := ⟨w.heap.size, i, none⟩) rl).trans (rf i)
    have hB2 := hb1.trans (hb2.mono hb1.size)
    have rl2 : w.heap.size < w2.heap.size := by have := hb2.size; omega
    clear hb1 hb2 cO
    go_wp2_with fail
    exact bodyPost_ret (v := .agg #[.int .i64 vh, .int .u64 (vl : Nat)]) (by simp [results, Try.results113, go_sem, r0, r1, rl2]) rfl ⟨rfl, ((hB2.setCell (by simp) _).setCell (by simp) _).alloc (by simp; omega) _⟩
theorem dbm_apart (A : Option Addr) (c : Nat) (x : List Int) (i j : Nat) (w : World) (hr : Rd w w.heap.size .i64 A x.length (nth x)) (hx : ∀ v ∈ x, I64 v) (hi : i / 2 < x.length) (hj : j / 2 < x.length) (hm : (x.length : Int) ≤ 9223372036854775807) (hi2 : i < 1000000) (hj2 : j < 1000000) :
    Calls Try.prog 96 #[.slice A x.length c, .int .i64 i, .int .i64 j] w fun e w' => e = .returned (.agg #[.int .i64 (hiW (apartV x i j)), .int .u64 (loW (apartV x i j) : Nat)]) ∧ Below w.heap.size w w' := by
  obtain ⟨w1, hw1⟩ : ∃ w1, w1 = w.alloc (.cells #[.int .i64 0, .int .u64 0] /-T-/113) := ⟨_, rfl⟩
  have hb1 : Below w.heap.size w w1 := by rw [hw1]; exact (Below.refl _ _).alloc (Nat.le_refl _) _
  have r0 : w1.cell? ⟨w.heap.size, 0, none⟩ = some (.int .i64 0) := by rw [hw1]; simp [World.cell?_alloc_new]
  have r1 : w1.cell? ⟨w.heap.size, 1, none⟩ = some (.int .u64 0) := by rw [hw1]; simp [World.cell?_alloc_new]
  have rf : ∀ i, w1.frozen? ⟨w.heap.size, i, none⟩ = false := by intro i; rw [hw1]; simp [go_sem]
  have rl : w.heap.size < w1.heap.size := by rw [hw1]; simp
  have hr1 := (hr.below hb1).more hb1.size
  have c1 := dbm_side A c x i w1 hr1 hx hi hm hi2
  have m1 := I64.midv (sideV_mid hx hi)
  have m2 := I64.midv (sideV_mid hx hj)
  have cL := fun W => wide_less (sideV x i) (sideV x j) W m1 m2
  have cJ := fun (W : World) (h : Rd W W.heap.size .i64 A x.length (nth x)) => dbm_side A c x j W h hx hj hm hj2
  rw [show sideV x i - sideV x j = apartV x i j from rfl] at cL
  clear m1 m2 hr hi hj hx
  generalize hiW (apartV x i j) = nh at *
  generalize loW (apartV x i j) = nl at *
  generalize hiW (sideV x i) = ih at *
  generalize loW (sideV x i) = il at *
  generalize hiW (sideV x j) = jh at *
  generalize loW (sideV x j) = jl at *
  go_enter Try.func96, Try.ntmps96
  go_wp2_with fail
  rw [← hw1]
  clear hw1
  refine c1.mono ?_
  clear c1
  rintro e w2 ⟨rfl, hb2⟩
  have c2 := cJ w2 ((hr1.below hb2).more hb2.size)
  go_wp2_with fail
  refine c2.mono ?_
  clear c2 cJ
  rintro e w3 ⟨rfl, hb3⟩
  go_wp2_with fail
  refine (cL _).mono ?_
  clear cL
  rintro e w4 ⟨rfl, hb4⟩
  have hb := (hb2.trans (hb3.mono hb2.size)).trans (hb4.mono (Nat.le_trans hb2.size hb3.size))
  have r0 := below_cell hb r0
  have r1 := below_cell hb r1
  have rf := fun i => (hb.frozen (p := ⟨w.heap.size, i, none⟩) rl).trans (rf i)
  have hB := hb1.trans (hb.mono hb1.size)
  clear hb hb2 hb3 hb4 hb1
  go_wp2_with fail
  exact bodyPost_ret (v := .agg #[.int .i64 nh, .int .u64 (nl : Nat)]) (by simp [results, Try.results96, go_sem, r0, r1]) rfl ⟨rfl, (hB.setCell (by simp) _).setCell (by simp) _⟩
namespace Gn
/-- The bound that a difference counts as. -/
def countV (v : Int) : Int := if 4611686018427387904 < v then 9223372036854775807 else if v < -4611686018427387904 then -4611686018427387904 else v
theorem loW_small {v : Int} (h1 : ¬ 4611686018427387904 < v) (h2 : ¬ v < -4611686018427387904) : wrap64 (loW v : Int) = v := by unfold loW wrap64; omega
theorem cmpI_pos {a b : Int} : 0 < cmpI a b ↔ b < a := by unfold cmpI; split <;> (try split) <;> omega
theorem cmpI_neg {a b : Int} : cmpI a b < 0 ↔ a < b := by unfold cmpI; split <;> (try split) <;> omega
end Gn
end Go.Proofs.Ytkogplnleiapfaa
