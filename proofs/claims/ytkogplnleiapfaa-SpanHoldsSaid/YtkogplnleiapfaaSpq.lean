/- The walks: gnomonref15's and span's functions that ask an octagon, and gnomonlaw15's told. Written by gen_spq.py. -/
import Derived.Test.YtkogplnleiapfaaSpo
namespace Go.Proofs.Ytkogplnleiapfaa
open Go.RowKit
set_option linter.unusedVariables false
set_option linter.unusedSimpArgs false
open Gn
theorem RgBox.put {w : World} {b : Nat} {l h : Int} {p q : Bool} (k : RgBox w b l h p q) (l' h' : Int) (p' q' : Bool) : RgBox ((((w.setCell ⟨b, 0, none⟩ (.int .i64 l')).setCell ⟨b, 1, none⟩ (.int .i64 h')).setCell ⟨b, 2, none⟩ (.bool p')).setCell ⟨b, 3, none⟩ (.bool q')) b l' h' p' q' :=
  ⟨by simp [go_sem, k.c0, k.c1, k.c2, k.c3], by simp [go_sem, k.c0, k.c1, k.c2, k.c3], by simp [go_sem, k.c0, k.c1, k.c2, k.c3], by simp [go_sem, k.c0, k.c1, k.c2, k.c3], fun i => by simp [go_sem, k.fz]⟩
theorem below_put4' {w X : World} {b : Nat} (hL : Below w.heap.size w X) (hb : w.heap.size ≤ b) (v0 v1 v2 v3 : Value) : Below w.heap.size w ((((X.setCell ⟨b, 0, none⟩ v0).setCell ⟨b, 1, none⟩ v1).setCell ⟨b, 2, none⟩ v2).setCell ⟨b, 3, none⟩ v3) :=
  (((hL.setCell hb _).setCell hb _).setCell hb _).setCell hb _
theorem ref15_sides (hi lo : Int) (w : World) (hl : Bd lo) :
    Calls Try.prog 81 #[.int .i64 hi, .int .i64 lo] w fun e w' => e = .returned (.agg #[.int .i64 (sidesR hi lo).lo, .int .i64 (sidesR hi lo).hi, .bool (sidesR hi lo).hl, .bool (sidesR hi lo).hh]) ∧ Below w.heap.size w w' := by
  obtain ⟨R, hR⟩ : ∃ R, R = sidesR hi lo := ⟨_, rfl⟩
  rw [← hR]
  unfold sidesR at hR
  by_cases h1 : hi = 9223372036854775807 <;> by_cases h2 : lo = 9223372036854775807
  · have d1 : (hi != 9223372036854775807) = false := bne_eq_false_iff_eq.2 h1
    have d2 : (lo != 9223372036854775807) = false := bne_eq_false_iff_eq.2 h2
    have HF := Lib.hid (show R = ⟨0, 0, false, false⟩ by rw [hR, decide_eq_false (fun k => k h2), decide_eq_false (fun k => k h1)]; rfl)
    clear h1 h2 hR hl
    go_enter Try.func81, Try.ntmps81
    go_wp2_with fail
    refine bodyPost_ret (v := .agg #[.int .i64 0, .int .i64 0, .bool false, .bool false]) (by simp [results, Try.results81, go_sem]) rfl ⟨retR HF.out, ?_⟩
    repeat (first | exact Below.refl _ _ | refine Below.setCell ?_ (by simp; omega) _ | refine Below.alloc ?_ (by simp; omega) _ | refine Below.setCell ?_ (by simp) _ | refine Below.alloc ?_ (by simp) _)
  · have d1 : (hi != 9223372036854775807) = false := bne_eq_false_iff_eq.2 h1
    have d2 : (lo != 9223372036854775807) = true := bne_iff_ne.2 h2
    have HF := Lib.hid (show R = ⟨-lo, 0, true, false⟩ by rw [hR, decide_eq_true h2, decide_eq_false (fun k => k h1)]; rfl)
    have hb : -4611686018427387904 ≤ lo ∧ lo ≤ 4611686018427387904 := by rcases hl with e | e; exact absurd e h2; exact e
    obtain ⟨b1, b2⟩ := hb
    clear h1 h2 hR hl
    go_enter Try.func81, Try.ntmps81
    go_wp2_with fail
    refine bodyPost_ret (v := .agg #[.int .i64 (-lo), .int .i64 0, .bool true, .bool false]) (by simp [results, Try.results81, go_sem]) rfl ⟨retR HF.out, ?_⟩
    repeat (first | exact Below.refl _ _ | refine Below.setCell ?_ (by simp; omega) _ | refine Below.alloc ?_ (by simp; omega) _ | refine Below.setCell ?_ (by simp) _ | refine Below.alloc ?_ (by simp) _)
  · have d1 : (hi != 9223372036854775807) = true := bne_iff_ne.2 h1
    have d2 : (lo != 9223372036854775807) = false := bne_eq_false_iff_eq.2 h2
    have HF := Lib.hid (show R = ⟨0, hi, false, true⟩ by rw [hR, decide_eq_false (fun k => k h2), decide_eq_true h1]; rfl)
    clear h1 h2 hR hl
    go_enter Try.func81, Try.ntmps81
    go_wp2_with fail
    refine bodyPost_ret (v := .agg #[.int .i64 0, .int .i64 hi, .bool false, .bool true]) (by simp [results, Try.results81, go_sem]) rfl ⟨retR HF.out, ?_⟩
    repeat (first | exact Below.refl _ _ | refine Below.setCell ?_ (by simp; omega) _ | refine Below.alloc ?_ (by simp; omega) _ | refine Below.setCell ?_ (by simp) _ | refine Below.alloc ?_ (by simp) _)
  · have d1 : (hi != 9223372036854775807) = true := bne_iff_ne.2 h1
    have d2 : (lo != 9223372036854775807) = true := bne_iff_ne.2 h2
    have HF := Lib.hid (show R = ⟨-lo, hi, true, true⟩ by rw [hR, decide_eq_true h2, decide_eq_true h1]; rfl)
    have hb : -4611686018427387904 ≤ lo ∧ lo ≤ 4611686018427387904 := by rcases hl with e | e; exact absurd e h2; exact e
    obtain ⟨b1, b2⟩ := hb
    clear h1 h2 hR hl
    go_enter Try.func81, Try.ntmps81
    go_wp2_with fail
    refine bodyPost_ret (v := .agg #[.int .i64 (-lo), .int .i64 hi, .bool true, .bool true]) (by simp [results, Try.results81, go_sem]) rfl ⟨retR HF.out, ?_⟩
    repeat (first | exact Below.refl _ _ | refine Below.setCell ?_ (by simp; omega) _ | refine Below.alloc ?_ (by simp; omega) _ | refine Below.setCell ?_ (by simp) _ | refine Below.alloc ?_ (by simp) _)
set_option maxHeartbeats 1000000 in
theorem ref15_cell (n : Nat) (A : Option Addr) (c : Nat) (M : List Int) (i j : Nat) (w : World) (h : OctIn w w.heap.size A c n M) (hn : n ≤ 64) (hM : M.length = (2 * n) * (2 * n)) (hi : i < 2 * n) (hj : j < 2 * n) :
    Calls Try.prog 83 #[.agg #[.int .i64 n, .bool false, .slice A M.length c], .int .i64 i, .int .i64 j] w fun e w' => e = .returned (.int .i64 (cl (2 * n) M i j)) ∧ Below w.heap.size w w' := by
  obtain ⟨W, hW, h1, hB, hs⟩ := one_box w 24 n false (.slice A M.length c)
  have hoW := h.go hB
  have hMq : M.length ≤ 16384 := by rw [hM, sq2]; exact sq_le hn
  have hp : i * (2 * n) + j < M.length := by rw [hM]; exact idx_lt hi hj
  obtain ⟨g, off, rfl, hg, hcell⟩ := hoW.rd (by omega)
  have hcv := hcell _ hp
  have e1 : (i : Int) * 2 * (n : Int) = ((i * (2 * n) : Nat) : Int) := by push_cast; rw [Int.mul_assoc]
  have hbd : cl (2 * n) M i j = nth M (i * (2 * n) + j) := rfl
  rw [hbd]
  have hi' : i < 1000 := by omega
  clear hbd hcell hM h hoW hn
  generalize nth M (i * (2 * n) + j) = v at *
  generalize i * (2 * n) = p at *
  obtain ⟨k0, k1, k2⟩ := id h1
  go_enter Try.func83, Try.ntmps83
  rw [hW] at k0 k1 k2 hcv
  have q3 : ((p : Int) + (j : Int)) < (M.length : Int) := by omega
  have q4 : (0 : Int) ≤ (p : Int) + (j : Int) := by omega
  go_wp2_with fail
  rw [← hW]
  go_ret
  exact ⟨rfl, hB⟩
theorem oct_rg (w : World) (t t' : TypeId) (N : Int) (E : Bool) (v : Value) : ∃ W, W = (w.alloc (.cells #[.int .i64 N, .bool E, v] t)).alloc (.cells #[.int .i64 0, .int .i64 0, .bool false, .bool false] t') ∧ OctAt W w.heap.size N E v ∧ Below w.heap.size w W ∧ RgBox W (w.heap.size + 1) 0 0 false false ∧ W.heap.size = w.heap.size + 1 + 1 := by
  have b1 : Below w.heap.size w (w.alloc (.cells #[.int .i64 N, .bool E, v] t)) := (Below.refl _ _).alloc (Nat.le_refl _) _
  have r := RgBox.new (w.alloc (.cells #[.int .i64 N, .bool E, v] t)) t' 0 0 false false
  rw [show (w.alloc (.cells #[.int .i64 N, .bool E, v] t)).heap.size = w.heap.size + 1 by simp] at r
  exact ⟨_, rfl, (OctAt.box _ _ _ _ _).alloc _, b1.alloc (by simp) _, r, by simp⟩
set_option maxRecDepth 100000 in
set_option maxHeartbeats 4000000 in
theorem ref15_Var (n : Nat) (A : Option Addr) (c : Nat) (M : List Int) (v : Nat) (w : World) (h : OctIn w w.heap.size A c n M) (hk : chk n false M = 0) (hv : v < n) (R : Rg) (hR : sidesR (half (cl (2 * n) M (2 * v) (2 * v + 1))) (half (cl (2 * n) M (2 * v + 1) (2 * v))) = R) :
    Calls Try.prog 38 #[.agg #[.int .i64 n, .bool false, .slice A M.length c], .int .i64 v] w fun e w' => e = .returned (.agg #[.int .i64 R.lo, .int .i64 R.hi, .bool R.hl, .bool R.hh]) ∧ Below w.heap.size w w' := by
  obtain ⟨m, hm, hn64, -, hl⟩ := chk_zero hk
  obtain rfl : m = n := by omega
  have hM := (hl rfl).1
  rw [← sq2] at hM
  obtain ⟨W, hW, h1, hL, hs, hsz⟩ := oct_rg w 24 50 m false (.slice A M.length c)
  have hoW := h.go hL
  have hBd : ∀ a b, Bd (cl (2 * m) M a b) := fun a b => cl_bd (chk_allB hk) a b
  have cA := fun x : After W => ref15_cell m A c M (2 * v) (2 * v + 1) x.w (hoW.go x.below) hn64 hM (by omega) (by omega)
  have cB := fun x : After W => ref15_cell m A c M (2 * v + 1) (2 * v) x.w (hoW.go x.below) hn64 hM (by omega) (by omega)
  push_cast at cA cB
  have cS := fun X => ref15_sides (half (cl (2 * m) M (2 * v) (2 * v + 1))) (half (cl (2 * m) M (2 * v + 1) (2 * v))) X (half_bd _)
  rw [hR] at cS
  clear hR hBd hk hl hm
  generalize cl (2 * m) M (2 * v) (2 * v + 1) = up at *
  generalize cl (2 * m) M (2 * v + 1) (2 * v) = down at *
  obtain ⟨k0, k1, k2⟩ := id h1
  have hv' : v < 64 := by omega
  clear hM hoW h
  go_enter Try.func38, Try.ntmps38
  rw [hW] at k0 k1 k2
  go_wp2_with fail
  rw [← hW] at k0 k1 k2 ⊢
  have a0 := After.cell k0
  have a1 := After.cell k1
  have a2 := After.cell k2
  clear hW k0 k1 k2
  refine wp_region_mix [(16, 2)] (by kernel_rfl) (by kernel_rfl) ?_
  simp only [wpMix, List.take_succ_cons, List.take_zero, List.drop_succ_cons, List.drop_zero]
  repeat (go_big_quiet_step (first | (go_at_call 83; with_reducible exact after_of (cA _)) | (go_at_call 83; with_reducible exact after_of (cB _)) | (go_at_call 82; with_reducible exact after_same (ref_Half _ _))))
  refine wpQuiet_nil ?_
  intro w2 hb
  replace hs := hs.go hb
  replace hL := hL.trans (hb.mono hL.size)
  clear hb a0 a1 a2 cA cB
  go_wp2_with fail
  with_reducible refine (cS _).mono ?_
  clear cS
  rintro e w3 ⟨rfl, hb⟩
  replace hs := hs.go hb
  replace hL := hL.trans (hb.mono hL.size)
  clear hb
  have hP := Lib.hid (hs.put R.lo R.hi R.hl R.hh)
  have hL2 := Lib.hid (below_put4' (b := w.heap.size + 1) hL (by omega) (.int .i64 R.lo) (.int .i64 R.hi) (.bool R.hl) (.bool R.hh))
  obtain ⟨r0, r1, r2, r3, rf⟩ := id hs
  clear hs hL
  go_wp2_with fail
  refine mixQ_normal (wpQuiet_nil ?_)
  intro w4 hb
  have hP4 := hP.out.go hb
  have hL4 := hL2.out.trans (hb.mono hL2.out.size)
  clear r0 r1 r2 r3 rf hb
  obtain ⟨r0, r1, r2, r3, rf⟩ := id hP4
  have s0 := hP4.lt
  go_wp2_with fail
  refine bodyPost_ret (v := .agg #[.int .i64 R.lo, .int .i64 R.hi, .bool R.hl, .bool R.hh]) (by simp [results, Try.results38, go_sem, r0, r1, r2, r3]) rfl ⟨rfl, ?_⟩
  exact hL4
set_option maxRecDepth 100000 in
set_option maxHeartbeats 4000000 in
theorem ref15_Diff (n : Nat) (A : Option Addr) (c : Nat) (M : List Int) (u : Nat) (v : Nat) (w : World) (h : OctIn w w.heap.size A c n M) (hk : chk n false M = 0) (hu : u < n) (hv : v < n) (R : Rg) (hR : sidesR (cl (2 * n) M (2 * u) (2 * v)) (cl (2 * n) M (2 * v) (2 * u)) = R) :
    Calls Try.prog 40 #[.agg #[.int .i64 n, .bool false, .slice A M.length c], .int .i64 u, .int .i64 v] w fun e w' => e = .returned (.agg #[.int .i64 R.lo, .int .i64 R.hi, .bool R.hl, .bool R.hh]) ∧ Below w.heap.size w w' := by
  obtain ⟨m, hm, hn64, -, hl⟩ := chk_zero hk
  obtain rfl : m = n := by omega
  have hM := (hl rfl).1
  rw [← sq2] at hM
  obtain ⟨W, hW, h1, hL, hs, hsz⟩ := oct_rg w 24 50 m false (.slice A M.length c)
  have hoW := h.go hL
  have hBd : ∀ a b, Bd (cl (2 * m) M a b) := fun a b => cl_bd (chk_allB hk) a b
  have cA := fun x : After W => ref15_cell m A c M (2 * u) (2 * v) x.w (hoW.go x.below) hn64 hM (by omega) (by omega)
  have cB := fun x : After W => ref15_cell m A c M (2 * v) (2 * u) x.w (hoW.go x.below) hn64 hM (by omega) (by omega)
  push_cast at cA cB
  have cS := fun X => ref15_sides (cl (2 * m) M (2 * u) (2 * v)) (cl (2 * m) M (2 * v) (2 * u)) X (hBd _ _)
  rw [hR] at cS
  clear hR hBd hk hl hm
  generalize cl (2 * m) M (2 * u) (2 * v) = up at *
  generalize cl (2 * m) M (2 * v) (2 * u) = down at *
  obtain ⟨k0, k1, k2⟩ := id h1
  have hu' : u < 64 := by omega
  have hv' : v < 64 := by omega
  clear hM hoW h
  go_enter Try.func40, Try.ntmps40
  rw [hW] at k0 k1 k2
  go_wp2_with fail
  rw [← hW] at k0 k1 k2 ⊢
  have a0 := After.cell k0
  have a1 := After.cell k1
  have a2 := After.cell k2
  clear hW k0 k1 k2
  refine wp_region_mix [(12, 2)] (by kernel_rfl) (by kernel_rfl) ?_
  simp only [wpMix, List.take_succ_cons, List.take_zero, List.drop_succ_cons, List.drop_zero]
  repeat (go_big_quiet_step (first | (go_at_call 83; with_reducible exact after_of (cA _)) | (go_at_call 83; with_reducible exact after_of (cB _))))
  refine wpQuiet_nil ?_
  intro w2 hb
  replace hs := hs.go hb
  replace hL := hL.trans (hb.mono hL.size)
  clear hb a0 a1 a2 cA cB
  go_wp2_with fail
  with_reducible refine (cS _).mono ?_
  clear cS
  rintro e w3 ⟨rfl, hb⟩
  replace hs := hs.go hb
  replace hL := hL.trans (hb.mono hL.size)
  clear hb
  have hP := Lib.hid (hs.put R.lo R.hi R.hl R.hh)
  have hL2 := Lib.hid (below_put4' (b := w.heap.size + 1) hL (by omega) (.int .i64 R.lo) (.int .i64 R.hi) (.bool R.hl) (.bool R.hh))
  obtain ⟨r0, r1, r2, r3, rf⟩ := id hs
  clear hs hL
  go_wp2_with fail
  refine mixQ_normal (wpQuiet_nil ?_)
  intro w4 hb
  have hP4 := hP.out.go hb
  have hL4 := hL2.out.trans (hb.mono hL2.out.size)
  clear r0 r1 r2 r3 rf hb
  obtain ⟨r0, r1, r2, r3, rf⟩ := id hP4
  have s0 := hP4.lt
  go_wp2_with fail
  refine bodyPost_ret (v := .agg #[.int .i64 R.lo, .int .i64 R.hi, .bool R.hl, .bool R.hh]) (by simp [results, Try.results40, go_sem, r0, r1, r2, r3]) rfl ⟨rfl, ?_⟩
  exact hL4
set_option maxRecDepth 100000 in
set_option maxHeartbeats 4000000 in
theorem ref15_Sum (n : Nat) (A : Option Addr) (c : Nat) (M : List Int) (u v : Nat) (w : World) (h : OctIn w w.heap.size A c n M) (hk : chk n false M = 0) (hu : u < n) (hv : v < n) (R : Rg) (hR : sidesR (cl (2 * n) M (2 * u) (2 * v + 1)) (cl (2 * n) M (2 * u + 1) (2 * v)) = R) :
    Calls Try.prog 39 #[.agg #[.int .i64 n, .bool false, .slice A M.length c], .int .i64 u, .int .i64 v] w fun e w' => e = .returned (.agg #[.int .i64 R.lo, .int .i64 R.hi, .bool R.hl, .bool R.hh]) ∧ Below w.heap.size w w' := by
  obtain ⟨m, hm, hn64, -, hl⟩ := chk_zero hk
  obtain rfl : m = n := by omega
  have hM := (hl rfl).1
  rw [← sq2] at hM
  obtain ⟨W, hW, h1, hL, hs, hsz⟩ := oct_rg w 24 50 m false (.slice A M.length c)
  have hoW := h.go hL
  have hBd : ∀ a b, Bd (cl (2 * m) M a b) := fun a b => cl_bd (chk_allB hk) a b
  by_cases huv : u = v
  · subst huv
    have hd : (((u : Nat) : Int) == ((u : Nat) : Int)) = true := beq_self_eq_true _
    have cA := fun x : After W => ref15_cell m A c M (2 * u) (2 * u + 1) x.w (hoW.go x.below) hn64 hM (by omega) (by omega)
    have cB := fun x : After W => ref15_cell m A c M (2 * u + 1) (2 * u) x.w (hoW.go x.below) hn64 hM (by omega) (by omega)
    push_cast at cA cB
    have cS := fun X => ref15_sides (cl (2 * m) M (2 * u) (2 * u + 1)) (cl (2 * m) M (2 * u + 1) (2 * u)) X (hBd _ _)
    rw [hR] at cS
    clear hR hBd hk hl hm
    generalize cl (2 * m) M (2 * u) (2 * u + 1) = up at *
    generalize cl (2 * m) M (2 * u + 1) (2 * u) = down at *
    obtain ⟨k0, k1, k2⟩ := id h1
    have hu' : u < 64 := by omega
    have hv' : u < 64 := by omega
    clear hM hoW h
    go_enter Try.func39, Try.ntmps39
    rw [hW] at k0 k1 k2
    go_wp2_with fail
    rw [← hW] at k0 k1 k2 ⊢
    have a0 := After.cell k0
    have a1 := After.cell k1
    have a2 := After.cell k2
    clear hW k0 k1 k2
    refine wp_region_mix [(14, 2)] (by kernel_rfl) (by kernel_rfl) ?_
    simp only [wpMix, List.take_succ_cons, List.take_zero, List.drop_succ_cons, List.drop_zero]
    repeat (go_big_quiet_step (first | (go_at_call 83; with_reducible exact after_of (cA _)) | (go_at_call 83; with_reducible exact after_of (cB _))))
    refine wpQuiet_nil ?_
    intro w2 hb
    replace hs := hs.go hb
    replace hL := hL.trans (hb.mono hL.size)
    clear hb a0 a1 a2 cA cB
    go_wp2_with fail
    with_reducible refine (cS _).mono ?_
    clear cS
    rintro e w3 ⟨rfl, hb⟩
    replace hs := hs.go hb
    replace hL := hL.trans (hb.mono hL.size)
    clear hb
    have hP := Lib.hid (hs.put R.lo R.hi R.hl R.hh)
    have hL2 := Lib.hid (below_put4' (b := w.heap.size + 1) hL (by omega) (.int .i64 R.lo) (.int .i64 R.hi) (.bool R.hl) (.bool R.hh))
    obtain ⟨r0, r1, r2, r3, rf⟩ := id hs
    clear hs hL
    go_wp2_with fail
    refine mixQ_normal (wpQuiet_nil ?_)
    intro w4 hb
    have hP4 := hP.out.go hb
    have hL4 := hL2.out.trans (hb.mono hL2.out.size)
    clear r0 r1 r2 r3 rf hb
    obtain ⟨r0, r1, r2, r3, rf⟩ := id hP4
    have s0 := hP4.lt
    go_wp2_with fail
    refine bodyPost_ret (v := .agg #[.int .i64 R.lo, .int .i64 R.hi, .bool R.hl, .bool R.hh]) (by simp [results, Try.results39, go_sem, r0, r1, r2, r3]) rfl ⟨rfl, ?_⟩
    exact hL4
  · have hd : (((u : Nat) : Int) == ((v : Nat) : Int)) = false := beq_eq_false_iff_ne.2 (by omega)
    clear huv
    have cA := fun x : After W => ref15_cell m A c M (2 * u) (2 * v + 1) x.w (hoW.go x.below) hn64 hM (by omega) (by omega)
    have cB := fun x : After W => ref15_cell m A c M (2 * u + 1) (2 * v) x.w (hoW.go x.below) hn64 hM (by omega) (by omega)
    push_cast at cA cB
    have cS := fun X => ref15_sides (cl (2 * m) M (2 * u) (2 * v + 1)) (cl (2 * m) M (2 * u + 1) (2 * v)) X (hBd _ _)
    rw [hR] at cS
    clear hR hBd hk hl hm
    generalize cl (2 * m) M (2 * u) (2 * v + 1) = up at *
    generalize cl (2 * m) M (2 * u + 1) (2 * v) = down at *
    obtain ⟨k0, k1, k2⟩ := id h1
    have hu' : u < 64 := by omega
    have hv' : v < 64 := by omega
    clear hM hoW h
    go_enter Try.func39, Try.ntmps39
    rw [hW] at k0 k1 k2
    go_wp2_with fail
    rw [← hW] at k0 k1 k2 ⊢
    have a0 := After.cell k0
    have a1 := After.cell k1
    have a2 := After.cell k2
    clear hW k0 k1 k2
    refine wp_region_mix [(14, 2)] (by kernel_rfl) (by kernel_rfl) ?_
    simp only [wpMix, List.take_succ_cons, List.take_zero, List.drop_succ_cons, List.drop_zero]
    repeat (go_big_quiet_step (first | (go_at_call 83; with_reducible exact after_of (cA _)) | (go_at_call 83; with_reducible exact after_of (cB _))))
    refine wpQuiet_nil ?_
    intro w2 hb
    replace hs := hs.go hb
    replace hL := hL.trans (hb.mono hL.size)
    clear hb a0 a1 a2 cA cB
    go_wp2_with fail
    with_reducible refine (cS _).mono ?_
    clear cS
    rintro e w3 ⟨rfl, hb⟩
    replace hs := hs.go hb
    replace hL := hL.trans (hb.mono hL.size)
    clear hb
    have hP := Lib.hid (hs.put R.lo R.hi R.hl R.hh)
    have hL2 := Lib.hid (below_put4' (b := w.heap.size + 1) hL (by omega) (.int .i64 R.lo) (.int .i64 R.hi) (.bool R.hl) (.bool R.hh))
    obtain ⟨r0, r1, r2, r3, rf⟩ := id hs
    clear hs hL
    go_wp2_with fail
    refine mixQ_normal (wpQuiet_nil ?_)
    intro w4 hb
    have hP4 := hP.out.go hb
    have hL4 := hL2.out.trans (hb.mono hL2.out.size)
    clear r0 r1 r2 r3 rf hb
    obtain ⟨r0, r1, r2, r3, rf⟩ := id hP4
    have s0 := hP4.lt
    go_wp2_with fail
    refine bodyPost_ret (v := .agg #[.int .i64 R.lo, .int .i64 R.hi, .bool R.hl, .bool R.hh]) (by simp [results, Try.results39, go_sem, r0, r1, r2, r3]) rfl ⟨rfl, ?_⟩
    exact hL4
theorem ref15_One (x : Int) (w : World) : Calls Try.prog 84 #[.int .i64 x] w fun e w' => e = .returned (.agg #[.int .i64 x, .int .i64 x, .bool true, .bool true]) ∧ Below w.heap.size w w' := by
  go_enter Try.func84, Try.ntmps84
  go_wp2_with fail
  refine bodyPost_ret (v := .agg #[.int .i64 x, .int .i64 x, .bool true, .bool true]) (by simp [results, Try.results84, go_sem]) rfl ⟨rfl, ?_⟩
  repeat (first | exact Below.refl _ _ | refine Below.setCell ?_ (by simp; omega) _ | refine Below.alloc ?_ (by simp; omega) _ | refine Below.setCell ?_ (by simp) _ | refine Below.alloc ?_ (by simp) _)
/-- Three variables of a call's own: an octagon, an operand, a range. -/
theorem oct_op_rg (w : World) (t t1 t' : TypeId) (N : Int) (E : Bool) (v : Value) (a b : Int) : ∃ W, W = ((w.alloc (.cells #[.int .i64 N, .bool E, v] t)).alloc (.cells #[.int .i64 a, .int .i64 b] t1)).alloc (.cells #[.int .i64 0, .int .i64 0, .bool false, .bool false] t') ∧ OctAt W w.heap.size N E v ∧
    W.cell? ⟨w.heap.size + 1, 0, none⟩ = some (.int .i64 a) ∧ W.cell? ⟨w.heap.size + 1, 1, none⟩ = some (.int .i64 b) ∧ Below w.heap.size w W ∧ RgBox W (w.heap.size + 1 + 1) 0 0 false false ∧ W.heap.size = w.heap.size + 1 + 1 + 1 := by
  have b1 : Below w.heap.size w (w.alloc (.cells #[.int .i64 N, .bool E, v] t)) := (Below.refl _ _).alloc (Nat.le_refl _) _
  have b2 := b1.alloc (by simp) (.cells #[.int .i64 a, .int .i64 b] t1)
  have r := RgBox.new ((w.alloc (.cells #[.int .i64 N, .bool E, v] t)).alloc (.cells #[.int .i64 a, .int .i64 b] t1)) t' 0 0 false false
  rw [show ((w.alloc (.cells #[.int .i64 N, .bool E, v] t)).alloc (.cells #[.int .i64 a, .int .i64 b] t1)).heap.size = w.heap.size + 1 + 1 by simp] at r
  have e : (w.alloc (.cells #[.int .i64 N, .bool E, v] t)).heap.size = w.heap.size + 1 := by simp
  have q0 : ((w.alloc (.cells #[.int .i64 N, .bool E, v] t)).alloc (.cells #[.int .i64 a, .int .i64 b] t1)).cell? ⟨w.heap.size + 1, 0, none⟩ = some (.int .i64 a) := by rw [← e]; simp [World.cell?_alloc_new]
  have q1 : ((w.alloc (.cells #[.int .i64 N, .bool E, v] t)).alloc (.cells #[.int .i64 a, .int .i64 b] t1)).cell? ⟨w.heap.size + 1, 1, none⟩ = some (.int .i64 b) := by rw [← e]; simp [World.cell?_alloc_new]
  refine ⟨_, rfl, ((OctAt.box _ _ _ _ _).alloc _).alloc _, ?_, ?_, b2.alloc (by simp; omega) _, r, by simp⟩
  · exact below_cell ((Below.refl _ _).alloc (Nat.le_refl _) _) q0
  · exact below_cell ((Below.refl _ _).alloc (Nat.le_refl _) _) q1
set_option maxRecDepth 100000 in
set_option maxHeartbeats 4000000 in
theorem ref15_Operand (n : Nat) (A : Option Addr) (c : Nat) (M : List Int) (v x : Int) (w : World) (h : OctIn w w.heap.size A c n M) (hk : chk n false M = 0) (hv : v < n) (R : Rg)
    (hR : (if 0 ≤ v then sidesR (half (cl (2 * n) M (2 * v.toNat) (2 * v.toNat + 1))) (half (cl (2 * n) M (2 * v.toNat + 1) (2 * v.toNat))) else ⟨x, x, true, true⟩) = R) :
    Calls Try.prog 41 #[.agg #[.int .i64 n, .bool false, .slice A M.length c], .agg #[.int .i64 v, .int .i64 x]] w fun e w' => e = .returned (.agg #[.int .i64 R.lo, .int .i64 R.hi, .bool R.hl, .bool R.hh]) ∧ Below w.heap.size w w' := by
  obtain ⟨W, hW, h1, o0, o1, hL, hs, hsz⟩ := oct_op_rg w 24 57 50 n false (.slice A M.length c) v x
  have hoW := h.go hL
  have HSz : Hid (w.heap.size ≤ w.heap.size + 1 + 1) := Lib.hid (by omega)
  by_cases h0 : 0 ≤ v
  · rw [if_pos h0] at hR
    obtain ⟨k, rfl⟩ := Int.eq_ofNat_of_zero_le h0
    rw [Int.toNat_natCast] at hR
    have cV := ref15_Var n A c M k W hoW hk (by omega) R hR
    have q : ((k : Int) < 0) = False := eq_false (by omega)
    obtain ⟨k0, k1, k2⟩ := id h1
    obtain ⟨r0, r1, r2, r3, rf⟩ := id hs
    clear hR hk hv hoW h
    go_enter Try.func41, Try.ntmps41
    rw [hW] at k0 k1 k2 o0 o1 r0 r1 r2 r3 rf
    go_wp2_with fail
    rw [← hW]
    clear hW k0 k1 k2 r0 r1 r2 r3 rf o0 o1
    with_reducible refine cV.mono ?_
    clear cV
    rintro e w3 ⟨rfl, hb⟩
    replace hs := hs.go hb
    replace hL := hL.trans (hb.mono hL.size)
    clear hb
    obtain ⟨r0, r1, r2, r3, rf⟩ := id hs
    go_wp2_with fail
    refine bodyPost_ret (v := .agg #[.int .i64 R.lo, .int .i64 R.hi, .bool R.hl, .bool R.hh]) (by simp [results, Try.results41, go_sem, r0, r1, r2, r3]) rfl ⟨rfl, ?_⟩
    exact below_put4' hL HSz.out _ _ _ _
  · rw [if_neg h0] at hR
    have cO := ref15_One x W
    have q : v < 0 := by omega
    obtain ⟨k0, k1, k2⟩ := id h1
    obtain ⟨r0, r1, r2, r3, rf⟩ := id hs
    have HR := Lib.hid hR.symm
    clear hR hk hv hoW h
    go_enter Try.func41, Try.ntmps41
    rw [hW] at k0 k1 k2 o0 o1 r0 r1 r2 r3 rf
    go_wp2_with fail
    rw [← hW]
    clear hW k0 k1 k2 r0 r1 r2 r3 rf o0 o1
    with_reducible refine cO.mono ?_
    clear cO
    rintro e w3 ⟨rfl, hb⟩
    replace hs := hs.go hb
    replace hL := hL.trans (hb.mono hL.size)
    clear hb
    obtain ⟨r0, r1, r2, r3, rf⟩ := id hs
    go_wp2_with fail
    refine bodyPost_ret (v := .agg #[.int .i64 x, .int .i64 x, .bool true, .bool true]) (by simp [results, Try.results41, go_sem, r0, r1, r2, r3]) rfl ⟨retR HR.out, ?_⟩
    exact below_put4' hL HSz.out _ _ _ _
set_option maxHeartbeats 1000000 in
theorem ref15_There (N : Int) (E : Bool) (A : Option Addr) (c : Nat) (M : List Int) (v : Int) (w : World) (h : OctIn w w.heap.size A c N M) (f : Int) (hf : askE N E M [v] = f) :
    Calls Try.prog 37 #[.agg #[.int .i64 N, .bool E, .slice A M.length c], .int .i64 v] w fun e w' => e = .returned (.int .i64 f) ∧ Below w.heap.size w w' := by
  obtain ⟨W, hW, h1, hB, hs⟩ := one_box w 24 N E (.slice A M.length c)
  have cC := ref_Check A c N E M W (h.go hB)
  have HF := Lib.hid hf
  have HN : Hid (chk N E M = 0 → (0 ≤ v ∧ v < N) → f = 0) := Lib.hid (fun k k2 => by rw [← hf]; exact askE_in k (by simp [inB, k2]))
  have HO : Hid (chk N E M = 0 → ¬ (0 ≤ v ∧ v < N) → f = 122) := Lib.hid (fun k k2 => by rw [← hf]; exact askE_out k (by simpa [inB] using k2))
  have HE : Hid (chk N E M ≠ 0 → f = chk N E M) := Lib.hid (fun k => by rw [← hf]; exact askE_chk k)
  clear hf
  obtain ⟨k0, k1, k2⟩ := id h1
  go_enter Try.func37, Try.ntmps37
  rw [hW] at k0 k1 k2
  go_wp2_with fail
  rw [← hW]
  clear hW k0 k1 k2
  with_reducible refine cC.mono ?_
  clear cC
  rintro e w1 ⟨rfl, hb⟩
  obtain ⟨k0, k1, k2⟩ := id (h1.below hb)
  have hB1 := Lib.hid (hB.trans (hb.mono (by omega)))
  clear hb hB h1
  by_cases hc : chk N E M = 0
  · have HN2 := Lib.hid (HN.out hc)
    have HO2 := Lib.hid (HO.out hc)
    rw [hc]
    clear HN HO HE hc
    by_cases h0 : 0 ≤ v
    · by_cases h2 : v < N
      · have HX := Lib.hid (HN2.out ⟨h0, h2⟩)
        go_wp2_with fail
        go_ret
        exact ⟨retI HX.out.symm, hB1.out⟩
      · have HX := Lib.hid (HO2.out (fun k => h2 k.2))
        go_wp2_with fail
        go_ret
        exact ⟨retI HX.out.symm, hB1.out⟩
    · have HX := Lib.hid (HO2.out (fun k => h0 k.1))
      go_wp2_with fail
      go_ret
      exact ⟨retI HX.out.symm, hB1.out⟩
  · have HX := Lib.hid (HE.out hc)
    have hd : (chk N E M == 0) = false := beq_eq_false_iff_ne.2 hc
    clear HN HO HE hc
    generalize chk N E M = x at *
    go_wp2_with fail
    go_ret
    exact ⟨retI HX.out.symm, hB1.out⟩
theorem two_rg (w : World) (t : TypeId) (l h : Int) (p q : Bool) (l' h' : Int) (p' q' : Bool) : ∃ W, W = (w.alloc (.cells #[.int .i64 l, .int .i64 h, .bool p, .bool q] t)).alloc (.cells #[.int .i64 l', .int .i64 h', .bool p', .bool q'] t) ∧ RgBox W w.heap.size l h p q ∧ RgBox W (w.heap.size + 1) l' h' p' q' ∧ Below w.heap.size w W := by
  have b1 : Below w.heap.size w (w.alloc (.cells #[.int .i64 l, .int .i64 h, .bool p, .bool q] t)) := (Below.refl _ _).alloc (Nat.le_refl _) _
  have h2 := RgBox.new (w.alloc (.cells #[.int .i64 l, .int .i64 h, .bool p, .bool q] t)) t l' h' p' q'
  rw [show (w.alloc (.cells #[.int .i64 l, .int .i64 h, .bool p, .bool q] t)).heap.size = w.heap.size + 1 by simp] at h2
  exact ⟨_, rfl, (RgBox.new w t l h p q).go ((Below.refl _ _).alloc (Nat.le_refl _) _), h2, b1.alloc (by simp) _⟩
set_option maxHeartbeats 1000000 in
theorem law_told_no (R : Rg) (x : Bool) (f : Int) (w : World) (hx : f ≠ 0 ∨ x = true) :
    Calls Try.prog 42 #[.agg #[.int .i64 0, .int .i64 0, .bool false, .bool false], .bool false, .int .i64 f, .agg #[.int .i64 R.lo, .int .i64 R.hi, .bool R.hl, .bool R.hh], .bool x, .int .i64 f] w fun e w' => e = .returned (.bool true) ∧ Below w.heap.size w w' := by
  obtain ⟨l, h, p, q⟩ := R
  dsimp only
  obtain ⟨W, hW, hA, hB, hL⟩ := two_rg w 50 0 0 false false l h p q
  obtain ⟨k0, k1, k2, k3, kf⟩ := hA
  clear hB
  by_cases hf : f = 0
  · obtain rfl : x = true := by rcases hx with k | k; exact absurd hf k; exact k
    subst hf
    clear hx
    go_enter Try.func42, Try.ntmps42
    rw [hW] at k0 k1 k2 k3 kf
    go_wp2_with fail
    rw [← hW]
    go_ret
    exact ⟨rfl, hL⟩
  · have hd : (f != 0) = true := bne_iff_ne.2 hf
    clear hx hf
    go_enter Try.func42, Try.ntmps42
    rw [hW] at k0 k1 k2 k3 kf
    go_wp2_with fail
    rw [← hW]
    go_ret
    exact ⟨rfl, hL⟩
set_option maxHeartbeats 1000000 in
theorem law_told_yes (R : Rg) (w : World) :
    Calls Try.prog 42 #[.agg #[.int .i64 R.lo, .int .i64 R.hi, .bool R.hl, .bool R.hh], .bool true, .int .i64 0, .agg #[.int .i64 R.lo, .int .i64 R.hi, .bool R.hl, .bool R.hh], .bool false, .int .i64 0] w fun e w' => e = .returned (.bool true) ∧ Below w.heap.size w w' := by
  obtain ⟨l, h, p, q⟩ := R
  dsimp only
  obtain ⟨W, hW, hA, hB, hL⟩ := two_rg w 50 l h p q l h p q
  obtain ⟨k0, k1, k2, k3, kf⟩ := hA
  obtain ⟨l0, l1, l2, l3, lf⟩ := hB
  go_enter Try.func42, Try.ntmps42
  rw [hW] at k0 k1 k2 k3 kf l0 l1 l2 l3 lf
  go_wp2_with fail
  rw [← hW]
  go_ret
  exact ⟨rfl, hL⟩
set_option maxRecDepth 100000 in
set_option maxHeartbeats 4000000 in
theorem span_Var (o : OV) (v : Int) (w : World) (h : OctIn w w.heap.size o.A o.c o.N o.M) (hM : (o.M.length : Int) ≤ 17592186043904) (a : Ans) (ha : ansP half o.N o.E o.M [v] ((2 * v).toNat) ((2 * v + 1).toNat) = a) :
    Calls Try.prog 33 #[.agg #[.int .i64 o.N, .bool o.E, .slice o.A o.M.length o.c], .int .i64 v] w fun e w' => e = .returned (.tuple #[.agg #[.int .i64 a.r.lo, .int .i64 a.r.hi, .bool a.r.hl, .bool a.r.hh], .bool a.ok, .int .i64 a.e]) ∧ Below w.heap.size w w' := by
  obtain ⟨W, hW, h1, hL, hs, hsz⟩ := oct_rg w 24 50 o.N o.E (.slice o.A o.M.length o.c)
  obtain ⟨w2, hw2⟩ : ∃ X, X = W.alloc (.cells #[.int .i64 v] 3) := ⟨_, rfl⟩
  have hb2 : Below W.heap.size W w2 := by rw [hw2]; exact (Below.refl _ _).alloc (Nat.le_refl _) _
  have hsz2 : w2.heap.size = W.heap.size + 1 := by rw [hw2]; simp
  have hx : Rd w2 w2.heap.size .i64 (some ⟨W.heap.size, 0, none⟩) (List.length [v]) (nth [v]) := fun _ => ⟨_, 0, rfl, by omega, fun i hi => by
    have hi' : i < 1 := hi
    rw [hw2, show (0 + i : Nat) = i by omega]
    match i, hi' with
    | 0, _ => simp [World.cell?_alloc_new, nth]⟩
  obtain ⟨x, hX⟩ : ∃ x, askE o.N o.E o.M [v] = x := ⟨_, rfl⟩
  have cK := span_asked o (some ⟨W.heap.size, 0, none⟩) 1 [v] w2 ((h.go hL).go hb2) hM hx (by simp) x hX
  rw [hsz] at cK
  simp only [List.length_cons, List.length_nil, Nat.zero_add, Nat.reduceAdd] at cK
  replace h1 := h1.below hb2
  replace hs := hs.go hb2
  replace hL := hL.trans (hb2.mono hL.size)
  have HSz : Hid (w.heap.size ≤ w.heap.size + 1) := Lib.hid (by omega)
  have HX := Lib.hid hX
  have HA := Lib.hid ha
  clear hx hb2 hsz2 hX ha h hM
  obtain ⟨k0, k1, k2⟩ := id h1
  go_enter Try.func33, Try.ntmps33
  rw [hw2, hW] at k0 k1 k2
  go_wp2_with fail
  rw [← hW]
  rw [← hw2]
  clear hW hw2 hsz k0 k1 k2 h1
  with_reducible refine cK.mono ?_
  clear cK
  rintro e w3 ⟨c, rfl, hT⟩
  have HT := Lib.hid hT.eq
  replace hs := hs.go hT.below
  replace hL := hL.trans (hT.below.mono hL.size)
  have hcI := hT.inn
  clear hT
  obtain ⟨w4, hw4⟩ : ∃ X, X = w3.alloc (.cells #[.int .i64 c.N, .bool c.E, .slice c.A c.M.length c.c] 24) := ⟨_, rfl⟩
  have hcV : Oc w4 w3.heap.size c := by rw [hw4]; exact Oc.new c hcI _
  have hb4 : Below w3.heap.size w3 w4 := by rw [hw4]; exact (Below.refl _ _).alloc (Nat.le_refl _) _
  replace hs := hs.go hb4
  replace hL := hL.trans (hb4.mono hL.size)
  clear hb4 hcI
  obtain ⟨k0, k1, k2⟩ := id hcV.at'
  obtain ⟨r0, r1, r2, r3, rf⟩ := id hs
  by_cases h0 : x = 0
  · have hd : (x != 0) = false := bne_eq_false_iff_eq.2 h0
    have hz := askE_zero (HX.out.trans h0)
    have hq := inB_one hz.2
    have hkc := clo_chk hz.1
    have HF := Lib.hid (show a = (if c.E = true then ⟨Rg.none, false, 0⟩ else ⟨sidesR (half (cl (2 * o.N.toNat) c.M ((2 * v).toNat) ((2 * v + 1).toNat))) (half (cl (2 * o.N.toNat) c.M (ac ((2 * v).toNat)) (ac ((2 * v + 1).toNat)))), true, 0⟩) by
      have e := HT.out
      unfold askO at e
      rw [HX.out, if_pos h0] at e
      rw [← HA.out]; unfold ansP
      rw [if_neg (by rw [HX.out]; omega), ← e])
    have hkc2 : chk c.N c.E c.M = 0 ∧ c.N = o.N := by
      have e := HT.out
      unfold askO at e
      rw [HX.out, if_pos h0] at e
      have e1 := congrArg (·.1) e
      have e2 := congrArg (·.2.1) e
      have e3 := congrArg (·.2.2) e
      dsimp only at e1 e2 e3
      rw [e2, e3, e1.trans hkc.1]
      exact ⟨hkc.2, rfl⟩
    obtain ⟨n, hnN, hn64, -, -⟩ := chk_zero hz.1
    obtain ⟨vk, rfl⟩ := Int.eq_ofNat_of_zero_le hq.1
    rw [hnN, Int.toNat_natCast] at HF
    have cB := span_betweenHalf n c (2 * vk) (2 * vk + 1) w4 hcV.inn (hkc2.2.trans hnN) hkc2.1 (by omega) (by omega) a (by rw [HF.out]; simp only [show (2 * (vk:Int)).toNat = 2 * vk by omega, show (2 * (vk:Int) + 1).toNat = 2 * vk + 1 by omega])
    push_cast at cB
    clear h0 hz hkc hkc2 HF
    rw [hw4] at k0 k1 k2 r0 r1 r2 r3 rf
    go_wp2_with fail
    rw [← hw4]
    clear hw4 k0 k1 k2 r0 r1 r2 r3 rf
    with_reducible refine cB.mono ?_
    clear cB
    rintro e w5 ⟨rfl, hb⟩
    replace hs := hs.go hb
    replace hL := hL.trans (hb.mono hL.size)
    clear hb
    obtain ⟨r0, r1, r2, r3, rf⟩ := id hs
    go_wp2_with fail
    refine bodyPost_ret (v := .tuple #[.agg #[.int .i64 a.r.lo, .int .i64 a.r.hi, .bool a.r.hl, .bool a.r.hh], .bool a.ok, .int .i64 a.e]) (by simp [results, Try.results33, go_sem, r0, r1, r2, r3]) rfl ⟨rfl, ?_⟩
    exact below_put4' hL HSz.out _ _ _ _
  · have hd : (x != 0) = true := bne_iff_ne.2 h0
    have HF := Lib.hid (show a = ⟨Rg.none, false, x⟩ by rw [← HA.out]; unfold ansP; rw [if_pos (by rw [HX.out]; exact h0), HX.out])
    clear h0
    rw [hw4] at k0 k1 k2 r0 r1 r2 r3 rf
    go_wp2_with fail
    rw [← hw4] at r0 r1 r2 r3 ⊢
    refine bodyPost_ret (v := .tuple #[.agg #[.int .i64 0, .int .i64 0, .bool false, .bool false], .bool false, .int .i64 x]) (by simp [results, Try.results33, go_sem, r0, r1, r2, r3]) rfl ⟨by rw [HF.out]; rfl, ?_⟩
    exact below_put4' hL HSz.out _ _ _ _
set_option maxRecDepth 100000 in
set_option maxHeartbeats 4000000 in
theorem span_Sum (o : OV) (u v : Int) (w : World) (h : OctIn w w.heap.size o.A o.c o.N o.M) (hM : (o.M.length : Int) ≤ 17592186043904) (a : Ans) (ha : ansP (fun a => a) o.N o.E o.M [u, v] ((2 * u).toNat) ((2 * v + 1).toNat) = a) :
    Calls Try.prog 34 #[.agg #[.int .i64 o.N, .bool o.E, .slice o.A o.M.length o.c], .int .i64 u, .int .i64 v] w fun e w' => e = .returned (.tuple #[.agg #[.int .i64 a.r.lo, .int .i64 a.r.hi, .bool a.r.hl, .bool a.r.hh], .bool a.ok, .int .i64 a.e]) ∧ Below w.heap.size w w' := by
  obtain ⟨W, hW, h1, hL, hs, hsz⟩ := oct_rg w 24 50 o.N o.E (.slice o.A o.M.length o.c)
  obtain ⟨w2, hw2⟩ : ∃ X, X = W.alloc (.cells #[.int .i64 u, .int .i64 v] 3) := ⟨_, rfl⟩
  have hb2 : Below W.heap.size W w2 := by rw [hw2]; exact (Below.refl _ _).alloc (Nat.le_refl _) _
  have hsz2 : w2.heap.size = W.heap.size + 1 := by rw [hw2]; simp
  have hx : Rd w2 w2.heap.size .i64 (some ⟨W.heap.size, 0, none⟩) (List.length [u, v]) (nth [u, v]) := fun _ => ⟨_, 0, rfl, by omega, fun i hi => by
    have hi' : i < 2 := hi
    rw [hw2, show (0 + i : Nat) = i by omega]
    match i, hi' with
    | 0, _ => simp [World.cell?_alloc_new, nth]
    | 1, _ => simp [World.cell?_alloc_new, nth]⟩
  obtain ⟨x, hX⟩ : ∃ x, askE o.N o.E o.M [u, v] = x := ⟨_, rfl⟩
  have cK := span_asked o (some ⟨W.heap.size, 0, none⟩) 2 [u, v] w2 ((h.go hL).go hb2) hM hx (by simp) x hX
  rw [hsz] at cK
  simp only [List.length_cons, List.length_nil, Nat.zero_add, Nat.reduceAdd] at cK
  replace h1 := h1.below hb2
  replace hs := hs.go hb2
  replace hL := hL.trans (hb2.mono hL.size)
  have HSz : Hid (w.heap.size ≤ w.heap.size + 1) := Lib.hid (by omega)
  have HX := Lib.hid hX
  have HA := Lib.hid ha
  clear hx hb2 hsz2 hX ha h hM
  obtain ⟨k0, k1, k2⟩ := id h1
  go_enter Try.func34, Try.ntmps34
  rw [hw2, hW] at k0 k1 k2
  go_wp2_with fail
  rw [← hW]
  rw [← hw2]
  clear hW hw2 hsz k0 k1 k2 h1
  with_reducible refine cK.mono ?_
  clear cK
  rintro e w3 ⟨c, rfl, hT⟩
  have HT := Lib.hid hT.eq
  replace hs := hs.go hT.below
  replace hL := hL.trans (hT.below.mono hL.size)
  have hcI := hT.inn
  clear hT
  obtain ⟨w4, hw4⟩ : ∃ X, X = w3.alloc (.cells #[.int .i64 c.N, .bool c.E, .slice c.A c.M.length c.c] 24) := ⟨_, rfl⟩
  have hcV : Oc w4 w3.heap.size c := by rw [hw4]; exact Oc.new c hcI _
  have hb4 : Below w3.heap.size w3 w4 := by rw [hw4]; exact (Below.refl _ _).alloc (Nat.le_refl _) _
  replace hs := hs.go hb4
  replace hL := hL.trans (hb4.mono hL.size)
  clear hb4 hcI
  obtain ⟨k0, k1, k2⟩ := id hcV.at'
  obtain ⟨r0, r1, r2, r3, rf⟩ := id hs
  by_cases h0 : x = 0
  · have hd : (x != 0) = false := bne_eq_false_iff_eq.2 h0
    have hz := askE_zero (HX.out.trans h0)
    have hq := inB_two hz.2
    have hkc := clo_chk hz.1
    have HF := Lib.hid (show a = (if c.E = true then ⟨Rg.none, false, 0⟩ else ⟨sidesR ((fun a => a) (cl (2 * o.N.toNat) c.M ((2 * u).toNat) ((2 * v + 1).toNat))) ((fun a => a) (cl (2 * o.N.toNat) c.M (ac ((2 * u).toNat)) (ac ((2 * v + 1).toNat)))), true, 0⟩) by
      have e := HT.out
      unfold askO at e
      rw [HX.out, if_pos h0] at e
      rw [← HA.out]; unfold ansP
      rw [if_neg (by rw [HX.out]; omega), ← e])
    have hkc2 : chk c.N c.E c.M = 0 ∧ c.N = o.N := by
      have e := HT.out
      unfold askO at e
      rw [HX.out, if_pos h0] at e
      have e1 := congrArg (·.1) e
      have e2 := congrArg (·.2.1) e
      have e3 := congrArg (·.2.2) e
      dsimp only at e1 e2 e3
      rw [e2, e3, e1.trans hkc.1]
      exact ⟨hkc.2, rfl⟩
    obtain ⟨n, hnN, hn64, -, -⟩ := chk_zero hz.1
    obtain ⟨uk, rfl⟩ := Int.eq_ofNat_of_zero_le hq.1.1
    obtain ⟨vk, rfl⟩ := Int.eq_ofNat_of_zero_le hq.2.1
    rw [hnN, Int.toNat_natCast] at HF
    have cB := span_betweenSame n c (2 * uk) (2 * vk + 1) w4 hcV.inn (hkc2.2.trans hnN) hkc2.1 (by omega) (by omega) a (by rw [HF.out]; simp only [show (2 * (uk:Int)).toNat = 2 * uk by omega, show (2 * (vk:Int) + 1).toNat = 2 * vk + 1 by omega])
    push_cast at cB
    clear h0 hz hkc hkc2 HF
    rw [hw4] at k0 k1 k2 r0 r1 r2 r3 rf
    go_wp2_with fail
    rw [← hw4]
    clear hw4 k0 k1 k2 r0 r1 r2 r3 rf
    with_reducible refine cB.mono ?_
    clear cB
    rintro e w5 ⟨rfl, hb⟩
    replace hs := hs.go hb
    replace hL := hL.trans (hb.mono hL.size)
    clear hb
    obtain ⟨r0, r1, r2, r3, rf⟩ := id hs
    go_wp2_with fail
    refine bodyPost_ret (v := .tuple #[.agg #[.int .i64 a.r.lo, .int .i64 a.r.hi, .bool a.r.hl, .bool a.r.hh], .bool a.ok, .int .i64 a.e]) (by simp [results, Try.results34, go_sem, r0, r1, r2, r3]) rfl ⟨rfl, ?_⟩
    exact below_put4' hL HSz.out _ _ _ _
  · have hd : (x != 0) = true := bne_iff_ne.2 h0
    have HF := Lib.hid (show a = ⟨Rg.none, false, x⟩ by rw [← HA.out]; unfold ansP; rw [if_pos (by rw [HX.out]; exact h0), HX.out])
    clear h0
    rw [hw4] at k0 k1 k2 r0 r1 r2 r3 rf
    go_wp2_with fail
    rw [← hw4] at r0 r1 r2 r3 ⊢
    refine bodyPost_ret (v := .tuple #[.agg #[.int .i64 0, .int .i64 0, .bool false, .bool false], .bool false, .int .i64 x]) (by simp [results, Try.results34, go_sem, r0, r1, r2, r3]) rfl ⟨by rw [HF.out]; rfl, ?_⟩
    exact below_put4' hL HSz.out _ _ _ _
set_option maxRecDepth 100000 in
set_option maxHeartbeats 4000000 in
theorem span_Diff (o : OV) (u v : Int) (w : World) (h : OctIn w w.heap.size o.A o.c o.N o.M) (hM : (o.M.length : Int) ≤ 17592186043904) (a : Ans) (ha : ansP (fun a => a) o.N o.E o.M [u, v] ((2 * u).toNat) ((2 * v).toNat) = a) :
    Calls Try.prog 35 #[.agg #[.int .i64 o.N, .bool o.E, .slice o.A o.M.length o.c], .int .i64 u, .int .i64 v] w fun e w' => e = .returned (.tuple #[.agg #[.int .i64 a.r.lo, .int .i64 a.r.hi, .bool a.r.hl, .bool a.r.hh], .bool a.ok, .int .i64 a.e]) ∧ Below w.heap.size w w' := by
  obtain ⟨W, hW, h1, hL, hs, hsz⟩ := oct_rg w 24 50 o.N o.E (.slice o.A o.M.length o.c)
  obtain ⟨w2, hw2⟩ : ∃ X, X = W.alloc (.cells #[.int .i64 u, .int .i64 v] 3) := ⟨_, rfl⟩
  have hb2 : Below W.heap.size W w2 := by rw [hw2]; exact (Below.refl _ _).alloc (Nat.le_refl _) _
  have hsz2 : w2.heap.size = W.heap.size + 1 := by rw [hw2]; simp
  have hx : Rd w2 w2.heap.size .i64 (some ⟨W.heap.size, 0, none⟩) (List.length [u, v]) (nth [u, v]) := fun _ => ⟨_, 0, rfl, by omega, fun i hi => by
    have hi' : i < 2 := hi
    rw [hw2, show (0 + i : Nat) = i by omega]
    match i, hi' with
    | 0, _ => simp [World.cell?_alloc_new, nth]
    | 1, _ => simp [World.cell?_alloc_new, nth]⟩
  obtain ⟨x, hX⟩ : ∃ x, askE o.N o.E o.M [u, v] = x := ⟨_, rfl⟩
  have cK := span_asked o (some ⟨W.heap.size, 0, none⟩) 2 [u, v] w2 ((h.go hL).go hb2) hM hx (by simp) x hX
  rw [hsz] at cK
  simp only [List.length_cons, List.length_nil, Nat.zero_add, Nat.reduceAdd] at cK
  replace h1 := h1.below hb2
  replace hs := hs.go hb2
  replace hL := hL.trans (hb2.mono hL.size)
  have HSz : Hid (w.heap.size ≤ w.heap.size + 1) := Lib.hid (by omega)
  have HX := Lib.hid hX
  have HA := Lib.hid ha
  clear hx hb2 hsz2 hX ha h hM
  obtain ⟨k0, k1, k2⟩ := id h1
  go_enter Try.func35, Try.ntmps35
  rw [hw2, hW] at k0 k1 k2
  go_wp2_with fail
  rw [← hW]
  rw [← hw2]
  clear hW hw2 hsz k0 k1 k2 h1
  with_reducible refine cK.mono ?_
  clear cK
  rintro e w3 ⟨c, rfl, hT⟩
  have HT := Lib.hid hT.eq
  replace hs := hs.go hT.below
  replace hL := hL.trans (hT.below.mono hL.size)
  have hcI := hT.inn
  clear hT
  obtain ⟨w4, hw4⟩ : ∃ X, X = w3.alloc (.cells #[.int .i64 c.N, .bool c.E, .slice c.A c.M.length c.c] 24) := ⟨_, rfl⟩
  have hcV : Oc w4 w3.heap.size c := by rw [hw4]; exact Oc.new c hcI _
  have hb4 : Below w3.heap.size w3 w4 := by rw [hw4]; exact (Below.refl _ _).alloc (Nat.le_refl _) _
  replace hs := hs.go hb4
  replace hL := hL.trans (hb4.mono hL.size)
  clear hb4 hcI
  obtain ⟨k0, k1, k2⟩ := id hcV.at'
  obtain ⟨r0, r1, r2, r3, rf⟩ := id hs
  by_cases h0 : x = 0
  · have hd : (x != 0) = false := bne_eq_false_iff_eq.2 h0
    have hz := askE_zero (HX.out.trans h0)
    have hq := inB_two hz.2
    have hkc := clo_chk hz.1
    have HF := Lib.hid (show a = (if c.E = true then ⟨Rg.none, false, 0⟩ else ⟨sidesR ((fun a => a) (cl (2 * o.N.toNat) c.M ((2 * u).toNat) ((2 * v).toNat))) ((fun a => a) (cl (2 * o.N.toNat) c.M (ac ((2 * u).toNat)) (ac ((2 * v).toNat)))), true, 0⟩) by
      have e := HT.out
      unfold askO at e
      rw [HX.out, if_pos h0] at e
      rw [← HA.out]; unfold ansP
      rw [if_neg (by rw [HX.out]; omega), ← e])
    have hkc2 : chk c.N c.E c.M = 0 ∧ c.N = o.N := by
      have e := HT.out
      unfold askO at e
      rw [HX.out, if_pos h0] at e
      have e1 := congrArg (·.1) e
      have e2 := congrArg (·.2.1) e
      have e3 := congrArg (·.2.2) e
      dsimp only at e1 e2 e3
      rw [e2, e3, e1.trans hkc.1]
      exact ⟨hkc.2, rfl⟩
    obtain ⟨n, hnN, hn64, -, -⟩ := chk_zero hz.1
    obtain ⟨uk, rfl⟩ := Int.eq_ofNat_of_zero_le hq.1.1
    obtain ⟨vk, rfl⟩ := Int.eq_ofNat_of_zero_le hq.2.1
    rw [hnN, Int.toNat_natCast] at HF
    have cB := span_betweenSame n c (2 * uk) (2 * vk) w4 hcV.inn (hkc2.2.trans hnN) hkc2.1 (by omega) (by omega) a (by rw [HF.out]; simp only [show (2 * (uk:Int)).toNat = 2 * uk by omega, show (2 * (vk:Int)).toNat = 2 * vk by omega])
    push_cast at cB
    clear h0 hz hkc hkc2 HF
    rw [hw4] at k0 k1 k2 r0 r1 r2 r3 rf
    go_wp2_with fail
    rw [← hw4]
    clear hw4 k0 k1 k2 r0 r1 r2 r3 rf
    with_reducible refine cB.mono ?_
    clear cB
    rintro e w5 ⟨rfl, hb⟩
    replace hs := hs.go hb
    replace hL := hL.trans (hb.mono hL.size)
    clear hb
    obtain ⟨r0, r1, r2, r3, rf⟩ := id hs
    go_wp2_with fail
    refine bodyPost_ret (v := .tuple #[.agg #[.int .i64 a.r.lo, .int .i64 a.r.hi, .bool a.r.hl, .bool a.r.hh], .bool a.ok, .int .i64 a.e]) (by simp [results, Try.results35, go_sem, r0, r1, r2, r3]) rfl ⟨rfl, ?_⟩
    exact below_put4' hL HSz.out _ _ _ _
  · have hd : (x != 0) = true := bne_iff_ne.2 h0
    have HF := Lib.hid (show a = ⟨Rg.none, false, x⟩ by rw [← HA.out]; unfold ansP; rw [if_pos (by rw [HX.out]; exact h0), HX.out])
    clear h0
    rw [hw4] at k0 k1 k2 r0 r1 r2 r3 rf
    go_wp2_with fail
    rw [← hw4] at r0 r1 r2 r3 ⊢
    refine bodyPost_ret (v := .tuple #[.agg #[.int .i64 0, .int .i64 0, .bool false, .bool false], .bool false, .int .i64 x]) (by simp [results, Try.results35, go_sem, r0, r1, r2, r3]) rfl ⟨by rw [HF.out]; rfl, ?_⟩
    exact below_put4' hL HSz.out _ _ _ _
end Go.Proofs.Ytkogplnleiapfaa
