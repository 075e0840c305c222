/- Walks: numbers of 128 bits, of the package dbm. -/
import Derived.Test.YtkgddgckilledaaOctM
import Derived.Shelf.Spec.BitsCarry
namespace Go.Proofs.Ytkgddgckilledaa
open Go.RowKit
set_option linter.unusedVariables false
set_option linter.unusedSimpArgs false
namespace Gn
/-- A number of 128 bits, as its two words. -/
def W128 (v hi : Int) (lo : Nat) : Prop := v = hi * 18446744073709551616 + lo ∧ lo < 18446744073709551616
/-- .. that is not great. -/
def Mid (v : Int) : Prop := -73786976294838206464 ≤ v ∧ v ≤ 73786976294838206464
def subD (x y b : Nat) : Nat := (x + 18446744073709551616 - y - b) % 18446744073709551616
def subB (x y b : Nat) : Nat := if x < y + b then 1 else 0
theorem subB_le (x y b : Nat) : subB x y b ≤ 1 := by unfold subB; split <;> omega
def u64N (x : Int) : Nat := (x % 18446744073709551616).toNat
theorem u64N_wrap (x : Int) : IntKind.u64.wrap x = (u64N x : Int) := by
  simp [IntKind.wrap, IntKind.bits, IntKind.signed, u64N]; omega
theorem W128_lt {v hi : Int} {lo : Nat} (h : W128 v hi lo) : (lo : Int) ≤ 18446744073709551615 := by unfold W128 at h; omega
theorem W128_hi {v hi : Int} {lo : Nat} (h : W128 v hi lo) (hm : Mid v) : -5 ≤ hi ∧ hi ≤ 5 := by unfold W128 at h; unfold Mid at hm; omega
theorem W128_sub {va vb ahi bhi : Int} {alo blo : Nat} (ha : W128 va ahi alo) (hb : W128 vb bhi blo) (hma : Mid va) (hmb : Mid vb) :
    W128 (va - vb) (wrap64 (subD (u64N ahi) (u64N bhi) (subB alo blo 0) : Int)) (subD alo blo 0) := by
  have h1 := W128_hi ha hma
  have h2 := W128_hi hb hmb
  obtain ⟨ha, hal⟩ := ha
  obtain ⟨hb, hbl⟩ := hb
  unfold W128 wrap64 subD subB u64N
  have e1 : ((ahi % 18446744073709551616).toNat : Int) = ahi % 18446744073709551616 := Int.toNat_of_nonneg (by omega)
  have e2 : ((bhi % 18446744073709551616).toNat : Int) = bhi % 18446744073709551616 := Int.toNat_of_nonneg (by omega)
  generalize (ahi % 18446744073709551616).toNat = p at *
  generalize (bhi % 18446744073709551616).toNat = q at *
  split <;> omega
theorem W128_neg {x : Int} (h : I64 x) (h0 : x < 0) : W128 x (x / 9223372036854775808) (u64N x) := by
  unfold I64 at h; unfold W128 u64N; omega
theorem W128_pos {x : Int} (h : I64 x) (h0 : 0 ≤ x) : W128 x (x / 9223372036854775808) x.toNat := by
  unfold I64 at h; unfold W128; omega
theorem I64.mid {x : Int} (h : I64 x) : Mid x := by unfold I64 at h; unfold Mid; omega
/-- What compare tells of two numbers. -/
def cmpI (a b : Int) : Int := if a < b then -1 else if b < a then 1 else 0
def orI (x y : Int) : Int := if x ≠ 0 then x else y
theorem W128_cmp {va vb ahi bhi : Int} {alo blo : Nat} (ha : W128 va ahi alo) (hb : W128 vb bhi blo) :
    cmpI va vb = orI (cmpI ahi bhi) (cmpI alo blo) := by
  unfold W128 at ha hb
  unfold orI cmpI
  by_cases h1 : ahi < bhi
  · simp only [if_pos h1]
    rw [if_pos (show va < vb by omega), if_pos (by omega)]
  · simp only [if_neg h1]
    by_cases h2 : bhi < ahi
    · simp only [if_pos h2]
      rw [if_neg (show ¬ va < vb by omega), if_pos (show vb < va by omega), if_pos (by omega)]
    · simp only [if_neg h2]
      rw [if_neg (show ¬ ((0 : Int) ≠ 0) by simp)]
      have : ahi = bhi := by omega
      subst this
      by_cases h3 : (alo : Int) < blo
      · rw [if_pos (show va < vb by omega), if_pos h3]
      · rw [if_neg (show ¬ va < vb by omega), if_neg h3]
        by_cases h4 : (blo : Int) < alo
        · rw [if_pos (show vb < va by omega), if_pos h4]
        · rw [if_neg (show ¬ vb < va by omega), if_neg h4]
/-- The two words. -/
def hiW (v : Int) : Int := v / 18446744073709551616
def loW (v : Int) : Nat := (v % 18446744073709551616).toNat
theorem W128_mk (v : Int) : W128 v (hiW v) (loW v) := by unfold W128 hiW loW; omega
theorem W128_eq {v hi : Int} {lo : Nat} (h : W128 v hi lo) : hi = hiW v ∧ lo = loW v := by unfold W128 at h; unfold hiW loW; omega
/-- A point's number on a side. -/
def sideV (x : List Int) (i : Nat) : Int := if i % 2 = 1 then -(nth x (i / 2)) else nth x (i / 2)
def apartV (x : List Int) (i j : Nat) : Int := sideV x i - sideV x j
theorem sideV_mid {x : List Int} (h : ∀ v ∈ x, I64 v) {i : Nat} (hi : i / 2 < x.length) : -9223372036854775808 ≤ sideV x i ∧ sideV x i ≤ 9223372036854775808 := by
  have := h _ (nth_mem hi)
  unfold I64 at this; unfold sideV; split <;> omega
end Gn
open Gn
theorem sub64_lays : Lays7.n26 Try.prog ⟨fun | 26 => /-F-/79 | n => n, fun | 22 => /-T-/68 | n => n, fun n => n⟩ := {
  mixed := by kernel_rfl
  f26 := Try.func79.trans (congrArg some (by kernel_rfl))
  t22 := Try.underlying68
  a22 := Try.isAgg68
  z22 := Try.sizeOf68
  v22 := Try.zeroValue68
  i22 := by kernel_rfl }
theorem run_Sub64 (x y b : Nat) (hb : b ≤ 1) (w : World) : (callFunc /-F-/79 #[.int .u64 x, .int .u64 y, .int .u64 b]).run Try.prog w = .ok (.value (.tuple #[.int .u64 (subD x y b : Nat), .int .u64 (subB x y b : Nat)])) w :=
  Any7.bits_Sub64 sub64_lays x y b hb w
theorem run_Sub64_0 (x y : Nat) (w : World) : (callFunc /-F-/79 #[.int .u64 x, .int .u64 y, .int .u64 0]).run Try.prog w = .ok (.value (.tuple #[.int .u64 (subD x y 0 : Nat), .int .u64 (subB x y 0 : Nat)])) w := run_Sub64 x y 0 (by omega) w
theorem agg_wide {v hi : Int} {lo : Nat} (h : W128 v hi lo) : Ending.returned (.agg #[.int .i64 hi, .int .u64 (lo : Nat)]) = .returned (.agg #[.int .i64 (hiW v), .int .u64 (loW v : Nat)]) := by
  obtain ⟨rfl, rfl⟩ := W128_eq h; rfl
theorem dbm_of (x : Int) (w : World) (hx : I64 x) :
    Calls Try.prog 39 #[.int .i64 x] w fun e w' => e = .returned (.agg #[.int .i64 (hiW x), .int .u64 (loW x : Nat)]) ∧ Below w.heap.size w w' := by
  have hB : ∀ cs, Below w.heap.size w (w.alloc (.cells cs /-T-/70)) := fun cs => (Below.refl _ _).alloc (Nat.le_refl _) _
  by_cases h0 : x < 0
  · have HW := Lib.hid (agg_wide (W128_neg hx h0))
    have hu := u64N_wrap x
    obtain ⟨h1, h2⟩ := hx
    generalize u64N x = lo at *
    obtain ⟨hi, hhi⟩ : ∃ hi, hi = x / 9223372036854775808 := ⟨_, rfl⟩
    rw [← hhi] at HW
    have HH := Lib.hid hhi
    clear hhi
    go_enter Try.func39, Try.ntmps39
    go_wp2_with fail
    rw [← HH.out]
    exact bodyPost_ret (v := .agg #[.int .i64 hi, .int .u64 (lo : Nat)]) (by simp [results, Try.results39, go_sem]) rfl ⟨HW.out, hB _⟩
  · have h0' : 0 ≤ x := by omega
    have HW := Lib.hid (agg_wide (W128_pos hx h0'))
    obtain ⟨h1, h2⟩ := hx
    obtain ⟨lo, rfl⟩ := Int.eq_ofNat_of_zero_le h0'
    rw [Int.toNat_natCast] at HW
    obtain ⟨hi, hhi⟩ : ∃ hi, hi = (lo : Int) / 9223372036854775808 := ⟨_, rfl⟩
    rw [← hhi] at HW
    have HH := Lib.hid hhi
    clear hhi
    go_enter Try.func39, Try.ntmps39
    go_wp2_with fail
    rw [← HH.out]
    exact bodyPost_ret (v := .agg #[.int .i64 hi, .int .u64 (lo : Nat)]) (by simp [results, Try.results39, go_sem]) rfl ⟨HW.out, hB _⟩
set_option maxRecDepth 100000 in
theorem wide_less (va vb : Int) (w : World) (hma : Mid va) (hmb : Mid vb) :
    Calls Try.prog 64 #[.agg #[.int .i64 (hiW va), .int .u64 (loW va : Nat)], .agg #[.int .i64 (hiW vb), .int .u64 (loW vb : Nat)]] w fun e w' => e = .returned (.agg #[.int .i64 (hiW (va - vb)), .int .u64 (loW (va - vb) : Nat)]) ∧ Below w.heap.size w w' := by
  have ha := W128_mk va
  have hb := W128_mk vb
  have HW := Lib.hid (agg_wide (W128_sub ha hb hma hmb))
  generalize hiW va = ahi at *
  generalize loW va = alo at *
  generalize hiW vb = bhi at *
  generalize loW vb = blo at *
  have ra := W128_hi ha hma
  have rb := W128_hi hb hmb
  have hal := W128_lt ha
  have hbl := W128_lt hb
  have ua := u64N_wrap ahi
  have ub := u64N_wrap bhi
  have hsl := subB_le alo blo 0
  have hs0 := fun W => run_Sub64_0 alo blo W
  have hs1 := fun W => run_Sub64 (u64N ahi) (u64N bhi) (subB alo blo 0) hsl W
  clear ha hb hma hmb
  generalize subD (u64N ahi) (u64N bhi) (subB alo blo 0) = hi at *
  generalize subB (u64N ahi) (u64N bhi) (subB alo blo 0) = bo at *
  generalize subB alo blo 0 = bb at *
  generalize subD alo blo 0 = lo at *
  generalize u64N ahi = pa at *
  generalize u64N bhi = pb at *
  go_enter Try.func64, Try.ntmps64
  go_wp2_with fail
  exact bodyPost_ret (v := .agg #[.int .i64 (wrap64 hi), .int .u64 (lo : Nat)]) (by simp [results, Try.results64, go_sem]) rfl ⟨HW.out, (((Below.refl _ _).alloc (Nat.le_refl _) _).alloc (by simp) _).alloc (by simp; omega) _⟩
theorem cmp_CompareI64 (a b : Int) (w : World) : Calls Try.prog 66 #[.int .i64 a, .int .i64 b] w fun e w' => e = .returned (.int .i64 (cmpI a b)) ∧ w = w' := by
  by_cases h1 : a < b
  · have HC := Lib.hid (show (-1 : Int) = cmpI a b by unfold cmpI; rw [if_pos h1])
    go_enter Try.func66, Try.ntmps66
    go_wp2
    go_ret
    exact ret1_int HC.out
  · by_cases h2 : b < a
    · have HC := Lib.hid (show (1 : Int) = cmpI a b by unfold cmpI; rw [if_neg h1, if_pos h2])
      go_enter Try.func66, Try.ntmps66
      go_wp2
      go_ret
      exact ret1_int HC.out
    · have HC := Lib.hid (show (0 : Int) = cmpI a b by unfold cmpI; rw [if_neg h1, if_neg h2])
      go_enter Try.func66, Try.ntmps66
      go_wp2
      go_ret
      exact ret1_int HC.out
theorem cmp_CompareU64 (a b : Nat) (w : World) : Calls Try.prog 67 #[.int .u64 a, .int .u64 b] w fun e w' => e = .returned (.int .i64 (cmpI a b)) ∧ w = w' := by
  by_cases h1 : a < b
  · have HC := Lib.hid (show (-1 : Int) = cmpI a b by unfold cmpI; rw [if_pos (by omega)])
    go_enter Try.func67, Try.ntmps67
    go_wp2
    go_ret
    exact ret1_int HC.out
  · by_cases h2 : b < a
    · have HC := Lib.hid (show (1 : Int) = cmpI a b by unfold cmpI; rw [if_neg (by omega), if_pos (by omega)])
      go_enter Try.func67, Try.ntmps67
      go_wp2
      go_ret
      exact ret1_int HC.out
    · have HC := Lib.hid (show (0 : Int) = cmpI a b by unfold cmpI; rw [if_neg (by omega), if_neg (by omega)])
      go_enter Try.func67, Try.ntmps67
      go_wp2
      go_ret
      exact ret1_int HC.out
theorem cmp_Or2 (x y : Int) (w : World) (g c : Nat) (h0 : w.cell? ⟨g, 0, none⟩ = some (.int .i64 x)) (h1 : w.cell? ⟨g, 1, none⟩ = some (.int .i64 y)) :
    Calls Try.prog 65 #[.slice (some ⟨g, 0, none⟩) 2 c] w fun e w' => e = .returned (.int .i64 (orI x y)) ∧ w = w' := by
  go_enter Try.func65, Try.ntmps65
  go_wp2
  go_loop [8] (fun s => ∃ k : Nat, s = .int .i64 k ∧ k ≤ 2 ∧ (0 < k → x = 0) ∧ (1 < k → y = 0)) (fun s => 2 - (intOf s).toNat)
  case atStart => exact ⟨0, rfl, by omega, fun h => by omega, fun h => by omega⟩
  case round =>
    obtain ⟨k, rfl, hk, hx, hy⟩ := hrel
    have hk3 : k = 0 ∨ k = 1 ∨ k = 2 := by omega
    rcases hk3 with rfl | rfl | rfl
    · clear hx hy
      by_cases hx : x = 0
      · have hb : (x != 0) = false := bne_eq_false_iff_eq.2 hx
        have HX := Lib.hid hx
        clear hx
        go_wp2
        go_round
        case rel => exact ⟨1, by go_num, by omega, fun _ => HX.out, fun h => by omega⟩
        case measure => simp [intOf]
      · have hb : (x != 0) = true := bne_iff_ne.2 hx
        have HX := Lib.hid hx
        clear hx
        go_wp2
        go_ret
        exact ret1_int (by unfold orI; rw [if_pos HX.out])
    · have hx := hx (by omega)
      have HX := Lib.hid hx
      clear hx hy
      by_cases hy : y = 0
      · have hb : (y != 0) = false := bne_eq_false_iff_eq.2 hy
        have HY := Lib.hid hy
        clear hy
        go_wp2
        go_round
        case rel => exact ⟨2, by go_num, by omega, fun _ => HX.out, fun h => HY.out⟩
        case measure => simp [intOf]
      · have hb : (y != 0) = true := bne_iff_ne.2 hy
        clear hy
        go_wp2
        go_ret
        exact ret1_int (by unfold orI; rw [if_neg (by simp [HX.out])])
    · have hx := hx (by omega)
      have hy := hy (by omega)
      have HX := Lib.hid hx
      have HY := Lib.hid hy
      clear hx hy
      go_wp2
      go_ret
      exact ret1_int (by unfold orI; rw [if_neg (by simp [HX.out])] <;> exact HY.out.symm)
theorem I64.midv {v : Int} (h : -9223372036854775808 ≤ v ∧ v ≤ 9223372036854775808) : Mid v := by unfold Mid; omega
set_option maxHeartbeats 1000000 in
theorem wide_compare (va vb : Int) (w : World) (hma : Mid va) (hmb : Mid vb) :
    Calls Try.prog 38 #[.agg #[.int .i64 (hiW va), .int .u64 (loW va : Nat)], .agg #[.int .i64 (hiW vb), .int .u64 (loW vb : Nat)]] w fun e w' => e = .returned (.int .i64 (cmpI va vb)) ∧ Below w.heap.size w w' := by
  have HW := Lib.hid (W128_cmp (W128_mk va) (W128_mk vb))
  have cI := fun W => cmp_CompareI64 (hiW va) (hiW vb) W
  have cU := fun W => cmp_CompareU64 (loW va) (loW vb) W
  clear hma hmb
  generalize cmpI (hiW va) (hiW vb) = x at *
  generalize cmpI (loW va) (loW vb) = y at *
  generalize hiW va = ahi at *
  generalize loW va = alo at *
  generalize hiW vb = bhi at *
  generalize loW vb = blo at *
  obtain ⟨W, hW⟩ : ∃ W, W = (w.alloc (.cells #[.int .i64 ahi, .int .u64 (alo : Nat)] /-T-/70)).alloc (.cells #[.int .i64 bhi, .int .u64 (blo : Nat)] /-T-/70) := ⟨_, rfl⟩
  have k0 : W.cell? ⟨w.heap.size, 0, none⟩ = some (.int .i64 ahi) := by rw [hW]; simp [go_sem]
  have k1 : W.cell? ⟨w.heap.size, 1, none⟩ = some (.int .u64 (alo : Nat)) := by rw [hW]; simp [go_sem]
  have l0 : W.cell? ⟨w.heap.size + 1, 0, none⟩ = some (.int .i64 bhi) := by rw [hW]; simp [go_sem]
  have l1 : W.cell? ⟨w.heap.size + 1, 1, none⟩ = some (.int .u64 (blo : Nat)) := by rw [hW]; simp [go_sem]
  have hB : Below w.heap.size w W := by rw [hW]; exact ((Below.refl _ _).alloc (Nat.le_refl _) _).alloc (by simp) _
  go_enter Try.func38, Try.ntmps38
  go_wp2_with fail
  rw [← hW]
  clear hW
  have a0 := After.cell k0
  have a1 := After.cell k1
  have a2 := After.cell l0
  have a3 := After.cell l1
  refine wp_region_mix [(10, 3)] (by kernel_rfl) (by kernel_rfl) ?_
  simp only [wpMix, List.take_succ_cons, List.take_zero, List.drop_succ_cons, List.drop_zero]
  repeat (go_big_quiet_step (first | (go_at_call 66; with_reducible exact after_same (cI _)) | (go_at_call 67; with_reducible exact after_same (cU _))))
  refine wpQuiet_nil ?_
  intro w1 hb1
  have hB1 := hB.trans (hb1.mono hB.size)
  clear a0 a1 a2 a3 k0 k1 l0 l1 cI cU hb1 hB
  go_wp2_with fail
  refine (cmp_Or2 x y _ w1.heap.size 2 (by simp [World.cell?_alloc_new]) (by simp [World.cell?_alloc_new])).mono ?_
  rintro e w' ⟨rfl, rfl⟩
  go_wp2_with fail
  refine mixQ_normal (wpQuiet_nil ?_)
  intro w2 hb2
  have hB2 : Below w.heap.size w w2 := (hB1.alloc hB1.size _).trans (hb2.mono (by have := hB1.size; simp; omega))
  clear hb2
  go_wp2_with fail
  go_ret
  rw [HW.out]
  exact ⟨rfl, hB2⟩
end Go.Proofs.Ytkgddgckilledaa
namespace Go.Proofs.Ytkgddgckilledaa
open Go.RowKit
set_option linter.unusedVariables false
set_option linter.unusedSimpArgs false
open Gn
theorem dbm_side (A : Option Addr) (c : Nat) (x : List Int) (i : Nat) (w : World) (hr : Rd w w.heap.size .i64 A x.length (nth x)) (hx : ∀ v ∈ x, I64 v) (hi : i / 2 < x.length) (hm : (x.length : Int) ≤ 9223372036854775807) (hi2 : i < 1000000) :
    Calls Try.prog 63 #[.slice A x.length c, .int .i64 i] w fun e w' => e = .returned (.agg #[.int .i64 (hiW (sideV x i)), .int .u64 (loW (sideV x i) : Nat)]) ∧ Below w.heap.size w w' := by
  have hv := hx _ (nth_mem hi)
  obtain ⟨g, off, rfl, hg, hcell⟩ := hr (by omega)
  have hcv := hcell _ hi
  have hmod : (i : Int).tmod 2 = ((i % 2 : Nat) : Int) := by rw [Int.tmod_eq_emod_of_nonneg (by omega)]; omega
  have hmod' : (i : Int) % 2 = ((i % 2 : Nat) : Int) := by omega
  have hdiv : (i : Int) / 2 = ((i / 2 : Nat) : Int) := by omega
  have hS : sideV x i = if i % 2 = 1 then -(nth x (i / 2)) else nth x (i / 2) := rfl
  clear hcell hr hx
  generalize nth x (i / 2) = v at *
  have cO := fun W => dbm_of v W hv
  obtain ⟨w1, hw1⟩ : ∃ w1, w1 = w.alloc (.cells #[.int .i64 0, .int .u64 0] /-T-/70) := ⟨_, rfl⟩
  have hb1 : Below w.heap.size w w1 := by rw [hw1]; exact (Below.refl _ _).alloc (Nat.le_refl _) _
  have r0 : w1.cell? ⟨w.heap.size, 0, none⟩ = some (.int .i64 0) := by rw [hw1]; simp [World.cell?_alloc_new]
  have r1 : w1.cell? ⟨w.heap.size, 1, none⟩ = some (.int .u64 0) := by rw [hw1]; simp [World.cell?_alloc_new]
  have rf : ∀ i, w1.frozen? ⟨w.heap.size, i, none⟩ = false := by intro i; rw [hw1]; simp [go_sem]
  have rl : w.heap.size < w1.heap.size := by rw [hw1]; simp
  have hcv1 := below_cell hb1 hcv
  have hq : i / 2 < x.length := hi
  have hlt : w.heap.size ≠ g := by omega
  have cO1 := cO w1
  clear hi
  generalize i / 2 = q at *
  by_cases h1 : i % 2 = 1
  · rw [if_pos h1] at hS
    rw [hS]
    have hb : (((i % 2 : Nat) : Int) == 1) = true := by rw [h1]; rfl
    have cL := fun W => wide_less 0 v W (by unfold Mid; omega) hv.mid
    rw [Int.zero_sub] at cL
    have cZ := fun W => dbm_of 0 W (by unfold I64; omega)
    clear hS h1
    generalize i % 2 = r at *
    generalize hiW (-v) = nh at *
    generalize loW (-v) = nl at *
    generalize hiW v = vh at *
    generalize loW v = vl at *
    generalize hiW 0 = zh at *
    generalize loW 0 = zl at *
    go_enter Try.func63, Try.ntmps63
    go_wp2_with fail
    rw [← hw1]
    refine cO1.mono ?_
    clear cO1 hw1 hcv hcv1
    rintro e w2 ⟨rfl, hb2⟩
    obtain ⟨w3, hw3⟩ : ∃ w3, w3 = w2.alloc (.cells #[.int .i64 vh, .int .u64 (vl : Nat)] /-T-/70) := ⟨_, rfl⟩
    have hb3 : Below w2.heap.size w2 w3 := by rw [hw3]; exact (Below.refl _ _).alloc (Nat.le_refl _) _
    have k0 : w3.cell? ⟨w2.heap.size, 0, none⟩ = some (.int .i64 vh) := by rw [hw3]; simp [World.cell?_alloc_new]
    have k1 : w3.cell? ⟨w2.heap.size, 1, none⟩ = some (.int .u64 (vl : Nat)) := by rw [hw3]; simp [World.cell?_alloc_new]
    have hb13 := hb2.trans (hb3.mono hb2.size)
    have r0 := below_cell hb13 r0
    have r1 := below_cell hb13 r1
    have rf := fun i => (hb13.frozen (p := ⟨w.heap.size, i, none⟩) rl).trans (rf i)
    have hB3 := hb1.trans (hb13.mono hb1.size)
    have rl3 : w.heap.size < w3.heap.size := by have := hb13.size; omega
    clear hb1 hb2 hb3 hb13
    go_wp2_with fail
    rw [← hw3]
    clear hw3
    have a0 := After.cell k0
    have a1 := After.cell k1
    refine wp_region_mix [(3, 1)] (by kernel_rfl) (by kernel_rfl) ?_
    simp only [wpMix, List.take_succ_cons, List.take_zero, List.drop_succ_cons, List.drop_zero]
    repeat (go_big_quiet_step (first | (go_at_call 39; with_reducible exact after_of (cZ _)) | (go_at_call 64; with_reducible exact after_of (cL _))))
    refine wpQuiet_nil ?_
    intro w4 hb4
    have r0 := below_cell hb4 r0
    have r1 := below_cell hb4 r1
    have rf := fun i => (hb4.frozen (p := ⟨w.heap.size, i, none⟩) rl3).trans (rf i)
    have hB4 := hB3.trans (hb4.mono hB3.size)
    have rl4 : w.heap.size < w4.heap.size := by have := hb4.size; omega
    clear a0 a1 k0 k1 cO cZ cL hB3 hb4
    go_wp2_with fail
    refine mixQ_normal (wpQuiet_nil ?_)
    intro w5 hb5
    have hB5 : Below w.heap.size w w5 := ((hB4.setCell (p := ⟨w.heap.size, 0, none⟩) (by simp) _).setCell (p := ⟨w.heap.size, 1, none⟩) (by simp) _).trans (hb5.mono (by simp; omega))
    have s0 := below_cell hb5 (p := ⟨w.heap.size, 0, none⟩) (v := .int .i64 nh) (by simp [go_sem, r0, r1])
    have s1 := below_cell hb5 (p := ⟨w.heap.size, 1, none⟩) (v := .int .u64 (nl : Nat)) (by simp [go_sem, r0, r1])
    clear hb5 r0 r1 hB4
    go_wp2_with fail
    exact bodyPost_ret (v := .agg #[.int .i64 nh, .int .u64 (nl : Nat)]) (by simp [results, Try.results63, go_sem, s0, s1]) rfl ⟨rfl, hB5⟩
  · rw [if_neg h1] at hS
    rw [hS]
    have hb : (((i % 2 : Nat) : Int) == 1) = false := beq_eq_false_iff_ne.2 (by omega)
    clear hS h1
    generalize i % 2 = r at *
    generalize hiW v = vh at *
    generalize loW v = vl at *
    go_enter Try.func63, Try.ntmps63
    go_wp2_with fail
    rw [← hw1]
    refine cO1.mono ?_
    clear cO1 hw1 hcv hcv1
    rintro e w2 ⟨rfl, hb2⟩
    have r0 := below_cell hb2 r0
    have r1 := below_cell hb2 r1
    have rf := fun i => (hb2.frozen (p := ⟨w.heap.size, i, none⟩) rl).trans (rf i)
    have hB2 := hb1.trans (hb2.mono hb1.size)
    have rl2 : w.heap.size < w2.heap.size := by have := hb2.size; omega
    clear hb1 hb2 cO
    go_wp2_with fail
    exact bodyPost_ret (v := .agg #[.int .i64 vh, .int .u64 (vl : Nat)]) (by simp [results, Try.results63, go_sem, r0, r1, rl2]) rfl ⟨rfl, ((hB2.setCell (by simp) _).setCell (by simp) _).alloc (by simp; omega) _⟩
theorem dbm_apart (A : Option Addr) (c : Nat) (x : List Int) (i j : Nat) (w : World) (hr : Rd w w.heap.size .i64 A x.length (nth x)) (hx : ∀ v ∈ x, I64 v) (hi : i / 2 < x.length) (hj : j / 2 < x.length) (hm : (x.length : Int) ≤ 9223372036854775807) (hi2 : i < 1000000) (hj2 : j < 1000000) :
    Calls Try.prog 37 #[.slice A x.length c, .int .i64 i, .int .i64 j] w fun e w' => e = .returned (.agg #[.int .i64 (hiW (apartV x i j)), .int .u64 (loW (apartV x i j) : Nat)]) ∧ Below w.heap.size w w' := by
  obtain ⟨w1, hw1⟩ : ∃ w1, w1 = w.alloc (.cells #[.int .i64 0, .int .u64 0] /-T-/70) := ⟨_, rfl⟩
  have hb1 : Below w.heap.size w w1 := by rw [hw1]; exact (Below.refl _ _).alloc (Nat.le_refl _) _
  have r0 : w1.cell? ⟨w.heap.size, 0, none⟩ = some (.int .i64 0) := by rw [hw1]; simp [World.cell?_alloc_new]
  have r1 : w1.cell? ⟨w.heap.size, 1, none⟩ = some (.int .u64 0) := by rw [hw1]; simp [World.cell?_alloc_new]
  have rf : ∀ i, w1.frozen? ⟨w.heap.size, i, none⟩ = false := by intro i; rw [hw1]; simp [go_sem]
  have rl : w.heap.size < w1.heap.size := by rw [hw1]; simp
  have hr1 := (hr.below hb1).more hb1.size
  have c1 := dbm_side A c x i w1 hr1 hx hi hm hi2
  have m1 := I64.midv (sideV_mid hx hi)
  have m2 := I64.midv (sideV_mid hx hj)
  have cL := fun W => wide_less (sideV x i) (sideV x j) W m1 m2
  have cJ := fun (W : World) (h : Rd W W.heap.size .i64 A x.length (nth x)) => dbm_side A c x j W h hx hj hm hj2
  rw [show sideV x i - sideV x j = apartV x i j from rfl] at cL
  clear m1 m2 hr hi hj hx
  generalize hiW (apartV x i j) = nh at *
  generalize loW (apartV x i j) = nl at *
  generalize hiW (sideV x i) = ih at *
  generalize loW (sideV x i) = il at *
  generalize hiW (sideV x j) = jh at *
  generalize loW (sideV x j) = jl at *
  go_enter Try.func37, Try.ntmps37
  go_wp2_with fail
  rw [← hw1]
  clear hw1
  refine c1.mono ?_
  clear c1
  rintro e w2 ⟨rfl, hb2⟩
  have c2 := cJ w2 ((hr1.below hb2).more hb2.size)
  go_wp2_with fail
  refine c2.mono ?_
  clear c2 cJ
  rintro e w3 ⟨rfl, hb3⟩
  go_wp2_with fail
  refine (cL _).mono ?_
  clear cL
  rintro e w4 ⟨rfl, hb4⟩
  have hb := (hb2.trans (hb3.mono hb2.size)).trans (hb4.mono (Nat.le_trans hb2.size hb3.size))
  have r0 := below_cell hb r0
  have r1 := below_cell hb r1
  have rf := fun i => (hb.frozen (p := ⟨w.heap.size, i, none⟩) rl).trans (rf i)
  have hB := hb1.trans (hb.mono hb1.size)
  clear hb hb2 hb3 hb4 hb1
  go_wp2_with fail
  exact bodyPost_ret (v := .agg #[.int .i64 nh, .int .u64 (nl : Nat)]) (by simp [results, Try.results37, go_sem, r0, r1]) rfl ⟨rfl, (hB.setCell (by simp) _).setCell (by simp) _⟩
namespace Gn
/-- The bound that a difference counts as. -/
def countV (v : Int) : Int := if 4611686018427387904 < v then 9223372036854775807 else if v < -4611686018427387904 then -4611686018427387904 else v
theorem loW_small {v : Int} (h1 : ¬ 4611686018427387904 < v) (h2 : ¬ v < -4611686018427387904) : wrap64 (loW v : Int) = v := by unfold loW wrap64; omega
theorem cmpI_pos {a b : Int} : 0 < cmpI a b ↔ b < a := by unfold cmpI; split <;> (try split) <;> omega
theorem cmpI_neg {a b : Int} : cmpI a b < 0 ↔ a < b := by unfold cmpI; split <;> (try split) <;> omega
end Gn
theorem dbm_counts (v : Int) (w : World) (hv : Mid v) :
    Calls Try.prog 44 #[.agg #[.int .i64 (hiW v), .int .u64 (loW v : Nat)]] w fun e w' => e = .returned (.int .i64 (countV v)) ∧ Below w.heap.size w w' := by
  have cO := fun W => dbm_of 4611686018427387904 W (by unfold I64; omega)
  have cN := fun W => dbm_of (-4611686018427387904) W (by unfold I64; omega)
  have cC := fun W => wide_compare v 4611686018427387904 W hv (by unfold Mid; omega)
  have cD := fun W => wide_compare v (-4611686018427387904) W hv (by unfold Mid; omega)
  have HP0 := Lib.hid (cmpI_pos (a := v) (b := 4611686018427387904))
  have HQ0 := Lib.hid (cmpI_neg (a := v) (b := -4611686018427387904))
  have HLO0 := Lib.hid (show ¬ 4611686018427387904 < v → ¬ v < -4611686018427387904 → wrap64 (loW v : Int) = v from loW_small)
  have e1 : 4611686018427387904 < v → countV v = 9223372036854775807 := fun h => by unfold countV; rw [if_pos h]
  have e2 : ¬ 4611686018427387904 < v → v < -4611686018427387904 → countV v = -4611686018427387904 := fun h h' => by unfold countV; rw [if_neg h, if_pos h']
  have e3 : ¬ 4611686018427387904 < v → ¬ v < -4611686018427387904 → countV v = v := fun h h' => by unfold countV; rw [if_neg h, if_neg h']
  have E1 := Lib.hid e1
  have E2 := Lib.hid e2
  have E3 := Lib.hid e3
  clear e1 e2 e3
  obtain ⟨w1, hw1⟩ : ∃ w1, w1 = w.alloc (.cells #[.int .i64 (hiW v), .int .u64 (loW v : Nat)] /-T-/70) := ⟨_, rfl⟩
  have hb1 : Below w.heap.size w w1 := by rw [hw1]; exact (Below.refl _ _).alloc (Nat.le_refl _) _
  have k0 : w1.cell? ⟨w.heap.size, 0, none⟩ = some (.int .i64 (hiW v)) := by rw [hw1]; simp [World.cell?_alloc_new]
  have k1 : w1.cell? ⟨w.heap.size, 1, none⟩ = some (.int .u64 (loW v : Nat)) := by rw [hw1]; simp [World.cell?_alloc_new]
  generalize cmpI v 4611686018427387904 = x at *
  generalize cmpI v (-4611686018427387904) = y at *
  generalize hiW v = vh at *
  generalize loW v = vl at *
  generalize hiW 4611686018427387904 = ph at *
  generalize loW 4611686018427387904 = pl at *
  generalize hiW (-4611686018427387904) = mh at *
  generalize loW (-4611686018427387904) = ml at *
  go_enter Try.func44, Try.ntmps44
  go_wp2_with fail
  rw [← hw1]
  have a0 := After.cell k0
  have a1 := After.cell k1
  refine wp_region_after (by kernel_rfl) (by kernel_rfl) ?_
  repeat (go_big_quiet_step (first | (go_at_call 39; with_reducible exact after_of (cO _)) | (go_at_call 38; with_reducible exact after_of (cC _))))
  refine wpQuiet_nil ?_
  intro w2 hb2
  have k0 := below_cell hb2 k0
  have k1 := below_cell hb2 k1
  have hB2 := hb1.trans (hb2.mono hb1.size)
  clear a0 a1 cO cC hb2 hb1 hw1
  by_cases h1 : 0 < x
  · have HE := Lib.hid (E1.out (HP0.out.1 h1))
    go_wp2_with fail
    go_ret
    rw [HE.out]
    exact ⟨rfl, hB2⟩
  · have h1' : ¬ 4611686018427387904 < v := fun h => h1 (HP0.out.2 h)
    have HE2 := Lib.hid (E2.out (by omega))
    have HE3 := Lib.hid (E3.out (by omega))
    have HLO := Lib.hid (HLO0.out (by omega))
    clear h1'
    go_wp2_with fail
    have a0 := After.cell k0
    have a1 := After.cell k1
    refine wp_region_after (by kernel_rfl) (by kernel_rfl) ?_
    repeat (go_big_quiet_step (first | (go_at_call 39; with_reducible exact after_of (cN _)) | (go_at_call 38; with_reducible exact after_of (cD _))))
    refine wpQuiet_nil ?_
    intro w3 hb3
    have k0 := below_cell hb3 k0
    have k1 := below_cell hb3 k1
    have hB3 := hB2.trans (hb3.mono hB2.size)
    clear a0 a1 cN cD hb3 hB2
    by_cases h2 : y < 0
    · have HE := Lib.hid (HE2.out (HQ0.out.1 h2))
      go_wp2_with fail
      go_ret
      rw [HE.out]
      exact ⟨rfl, hB3⟩
    · have h2' : ¬ v < -4611686018427387904 := fun h => h2 (HQ0.out.2 h)
      have HE := Lib.hid (HE3.out (by omega))
      have HL := Lib.hid (HLO.out (by omega))
      clear h2'
      go_wp2_with fail
      go_ret
      rw [HE.out, ← HL.out]
      exact ⟨rfl, hB3⟩
end Go.Proofs.Ytkgddgckilledaa
