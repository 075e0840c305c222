/- Walks: numbers of 128 bits, of the package dbm. -/
import Derived.Test.YtkogplnleiapfaaOctM
import Derived.Shelf.Spec.BitsCarry
namespace Go.Proofs.Ytkogplnleiapfaa
open Go.RowKit
set_option linter.unusedVariables false
set_option linter.unusedSimpArgs false
namespace Gn
/-- A number of 128 bits, as its two words. -/
def W128 (v hi : Int) (lo : Nat) : Prop := v = hi * 18446744073709551616 + lo ∧ lo < 18446744073709551616
/-- .. that is not great. -/
def Mid (v : Int) : Prop := -73786976294838206464 ≤ v ∧ v ≤ 73786976294838206464
def subD (x y b : Nat) : Nat := (x + 18446744073709551616 - y - b) % 18446744073709551616
def subB (x y b : Nat) : Nat := if x < y + b then 1 else 0
theorem subB_le (x y b : Nat) : subB x y b ≤ 1 := by unfold subB; split <;> omega
def u64N (x : Int) : Nat := (x % 18446744073709551616).toNat
theorem u64N_wrap (x : Int) : IntKind.u64.wrap x = (u64N x : Int) := by
  simp [IntKind.wrap, IntKind.bits, IntKind.signed, u64N]; omega
theorem W128_lt {v hi : Int} {lo : Nat} (h : W128 v hi lo) : (lo : Int) ≤ 18446744073709551615 := by unfold W128 at h; omega
theorem W128_hi {v hi : Int} {lo : Nat} (h : W128 v hi lo) (hm : Mid v) : -5 ≤ hi ∧ hi ≤ 5 := by unfold W128 at h; unfold Mid at hm; omega
theorem W128_sub {va vb ahi bhi : Int} {alo blo : Nat} (ha : W128 va ahi alo) (hb : W128 vb bhi blo) (hma : Mid va) (hmb : Mid vb) :
    W128 (va - vb) (wrap64 (subD (u64N ahi) (u64N bhi) (subB alo blo 0) : Int)) (subD alo blo 0) := by
  have h1 := W128_hi ha hma
  have h2 := W128_hi hb hmb
  obtain ⟨ha, hal⟩ := ha
  obtain ⟨hb, hbl⟩ := hb
  unfold W128 wrap64 subD subB u64N
  have e1 : ((ahi % 18446744073709551616).toNat : Int) = ahi % 18446744073709551616 := Int.toNat_of_nonneg (by omega)
  have e2 : ((bhi % 18446744073709551616).toNat : Int) = bhi % 18446744073709551616 := Int.toNat_of_nonneg (by omega)
  generalize (ahi % 18446744073709551616).toNat = p at *
  generalize (bhi % 18446744073709551616).toNat = q at *
  split <;> omega
theorem W128_neg {x : Int} (h : I64 x) (h0 : x < 0) : W128 x (x / 9223372036854775808) (u64N x) := by
  unfold I64 at h; unfold W128 u64N; omega
theorem W128_pos {x : Int} (h : I64 x) (h0 : 0 ≤ x) : W128 x (x / 9223372036854775808) x.toNat := by
  unfold I64 at h; unfold W128; omega
theorem I64.mid {x : Int} (h : I64 x) : Mid x := by unfold I64 at h; unfold Mid; omega
/-- What compare tells of two numbers. -/
def cmpI (a b : Int) : Int := if a < b then -1 else if b < a then 1 else 0
def orI (x y : Int) : Int := if x ≠ 0 then x else y
theorem W128_cmp {va vb ahi bhi : Int} {alo blo : Nat} (ha : W128 va ahi alo) (hb : W128 vb bhi blo) :
    cmpI va vb = orI (cmpI ahi bhi) (cmpI alo blo) := by
  unfold W128 at ha hb
  unfold orI cmpI
  by_cases h1 : ahi < bhi
  · simp only [if_pos h1]
    rw [if_pos (show va < vb by omega), if_pos (by omega)]
  · simp only [if_neg h1]
    by_cases h2 : bhi < ahi
    · simp only [if_pos h2]
      rw [if_neg (show ¬ va < vb by omega), if_pos (show vb < va by omega), if_pos (by omega)]
    · simp only [if_neg h2]
      rw [if_neg (show ¬ ((0 : Int) ≠ 0) by simp)]
      have : ahi = bhi := by omega
      subst this
      by_cases h3 : (alo : Int) < blo
      · rw [if_pos (show va < vb by omega), if_pos h3]
      · rw [if_neg (show ¬ va < vb by omega), if_neg h3]
        by_cases h4 : (blo : Int) < alo
        · rw [if_pos (show vb < va by omega), if_pos h4]
        · rw [if_neg (show ¬ vb < va by omega), if_neg h4]
/-- The two words. -/
def hiW (v : Int) : Int := v / 18446744073709551616
def loW (v : Int) : Nat := (v % 18446744073709551616).toNat
theorem W128_mk (v : Int) : W128 v (hiW v) (loW v) := by unfold W128 hiW loW; omega
theorem W128_eq {v hi : Int} {lo : Nat} (h : W128 v hi lo) : hi = hiW v ∧ lo = loW v := by unfold W128 at h; unfold hiW loW; omega
/-- A point's number on a side. -/
def sideV (x : List Int) (i : Nat) : Int := if i % 2 = 1 then -(nth x (i / 2)) else nth x (i / 2)
def apartV (x : List Int) (i j : Nat) : Int := sideV x i - sideV x j
theorem sideV_mid {x : List Int} (h : ∀ v ∈ x, I64 v) {i : Nat} (hi : i / 2 < x.length) : -9223372036854775808 ≤ sideV x i ∧ sideV x i ≤ 9223372036854775808 := by
  have := h _ (nth_mem hi)
  unfold I64 at this; unfold sideV; split <;> omega
end Gn
open Gn
theorem sub64_lays : Lays7.n26 Try.prog ⟨fun | 26 => /-F-/129 | n => n, fun | 22 => /-T-/111 | n => n, fun n => n⟩ := {
  mixed := by kernel_rfl
  f26 := Try.func129.trans (congrArg some (by kernel_rfl))
  t22 := Try.underlying111
  a22 := Try.isAgg111
  z22 := Try.sizeOf111
  v22 := Try.zeroValue111
  i22 := by kernel_rfl }
theorem run_Sub64 (x y b : Nat) (hb : b ≤ 1) (w : World) : (callFunc /-F-/129 #[.int .u64 x, .int .u64 y, .int .u64 b]).run Try.prog w = .ok (.value (.tuple #[.int .u64 (subD x y b : Nat), .int .u64 (subB x y b : Nat)])) w :=
  Any7.bits_Sub64 sub64_lays x y b hb w
theorem run_Sub64_0 (x y : Nat) (w : World) : (callFunc /-F-/129 #[.int .u64 x, .int .u64 y, .int .u64 0]).run Try.prog w = .ok (.value (.tuple #[.int .u64 (subD x y 0 : Nat), .int .u64 (subB x y 0 : Nat)])) w := run_Sub64 x y 0 (by omega) w
theorem agg_wide {v hi : Int} {lo : Nat} (h : W128 v hi lo) : Ending.returned (.agg #[.int .i64 hi, .int .u64 (lo : Nat)]) = .returned (.agg #[.int .i64 (hiW v), .int .u64 (loW v : Nat)]) := by
  obtain ⟨rfl, rfl⟩ := W128_eq h; rfl
theorem dbm_of (x : Int) (w : World) (hx : I64 x) :
    Calls Try.prog 98 #[.int .i64 x] w fun e w' => e = .returned (.agg #[.int .i64 (hiW x), .int .u64 (loW x : Nat)]) ∧ Below w.heap.size w w' := by
  have hB : ∀ cs, Below w.heap.size w (w.alloc (.cells cs /-T-/113)) := fun cs => (Below.refl _ _).alloc (Nat.le_refl _) _
  by_cases h0 : x < 0
  · have HW := Lib.hid (agg_wide (W128_neg hx h0))
    have hu := u64N_wrap x
    obtain ⟨h1, h2⟩ := hx
    generalize u64N x = lo at *
    obtain ⟨hi, hhi⟩ : ∃ hi, hi = x / 9223372036854775808 := ⟨_, rfl⟩
    rw [← hhi] at HW
    have HH := Lib.hid hhi
    clear hhi
    go_enter Try.func98, Try.ntmps98
    go_wp2_with fail
    rw [← HH.out]
    exact bodyPost_ret (v := .agg #[.int .i64 hi, .int .u64 (lo : Nat)]) (by simp [results, Try.results98, go_sem]) rfl ⟨HW.out, hB _⟩
  · have h0' : 0 ≤ x := by omega
    have HW := Lib.hid (agg_wide (W128_pos hx h0'))
    obtain ⟨h1, h2⟩ := hx
    obtain ⟨lo, rfl⟩ := Int.eq_ofNat_of_zero_le h0'
    rw [Int.toNat_natCast] at HW
    obtain ⟨hi, hhi⟩ : ∃ hi, hi = (lo : Int) / 9223372036854775808 := ⟨_, rfl⟩
    rw [← hhi] at HW
    have HH := Lib.hid hhi
    clear hhi
    go_enter Try.func98, Try.ntmps98
    go_wp2_with fail
    rw [← HH.out]
    exact bodyPost_ret (v := .agg #[.int .i64 hi, .int .u64 (lo : Nat)]) (by simp [results, Try.results98, go_sem]) rfl ⟨HW.out, hB _⟩
set_option maxRecDepth 100000 in
theorem wide_less (va vb : Int) (w : World) (hma : Mid va) (hmb : Mid vb) :
    Calls Try.prog 114 #[.agg #[.int .i64 (hiW va), .int .u64 (loW va : Nat)], .agg #[.int .i64 (hiW vb), .int .u64 (loW vb : Nat)]] w fun e w' => e = .returned (.agg #[.int .i64 (hiW (va - vb)), .int .u64 (loW (va - vb) : Nat)]) ∧ Below w.heap.size w w' := by
  have ha := W128_mk va
  have hb := W128_mk vb
  have HW := Lib.hid (agg_wide (W128_sub ha hb hma hmb))
  generalize hiW va = ahi at *
  generalize loW va = alo at *
  generalize hiW vb = bhi at *
  generalize loW vb = blo at *
  have ra := W128_hi ha hma
  have rb := W128_hi hb hmb
  have hal := W128_lt ha
  have hbl := W128_lt hb
  have ua := u64N_wrap ahi
  have ub := u64N_wrap bhi
  have hsl := subB_le alo blo 0
  have hs0 := fun W => run_Sub64_0 alo blo W
  have hs1 := fun W => run_Sub64 (u64N ahi) (u64N bhi) (subB alo blo 0) hsl W
  clear ha hb hma hmb
  generalize subD (u64N ahi) (u64N bhi) (subB alo blo 0) = hi at *
  generalize subB (u64N ahi) (u64N bhi) (subB alo blo 0) = bo at *
  generalize subB alo blo 0 = bb at *
  generalize subD alo blo 0 = lo at *
  generalize u64N ahi = pa at *
  generalize u64N bhi = pb at *
  go_enter Try.func114, Try.ntmps114
  go_wp2_with fail
  exact bodyPost_ret (v := .agg #[.int .i64 (wrap64 hi), .int .u64 (lo : Nat)]) (by simp [results, Try.results114, go_sem]) rfl ⟨HW.out, (((Below.refl _ _).alloc (Nat.le_refl _) _).alloc (by simp) _).alloc (by simp; omega) _⟩
theorem cmp_CompareI64 (a b : Int) (w : World) : Calls Try.prog 116 #[.int .i64 a, .int .i64 b] w fun e w' => e = .returned (.int .i64 (cmpI a b)) ∧ w = w' := by
  by_cases h1 : a < b
  · have HC := Lib.hid (show (-1 : Int) = cmpI a b by unfold cmpI; rw [if_pos h1])
    go_enter Try.func116, Try.ntmps116
    go_wp2
    go_ret
    exact ret1_int HC.out
  · by_cases h2 : b < a
    · have HC := Lib.hid (show (1 : Int) = cmpI a b by unfold cmpI; rw [if_neg h1, if_pos h2])
      go_enter Try.func116, Try.ntmps116
      go_wp2
      go_ret
      exact ret1_int HC.out
    · have HC := Lib.hid (show (0 : Int) = cmpI a b by unfold cmpI; rw [if_neg h1, if_neg h2])
      go_enter Try.func116, Try.ntmps116
      go_wp2
      go_ret
      exact ret1_int HC.out
theorem cmp_CompareU64 (a b : Nat) (w : World) : Calls Try.prog 117 #[.int .u64 a, .int .u64 b] w fun e w' => e = .returned (.int .i64 (cmpI a b)) ∧ w = w' := by
  by_cases h1 : a < b
  · have HC := Lib.hid (show (-1 : Int) = cmpI a b by unfold cmpI; rw [if_pos (by omega)])
    go_enter Try.func117, Try.ntmps117
    go_wp2
    go_ret
    exact ret1_int HC.out
  · by_cases h2 : b < a
    · have HC := Lib.hid (show (1 : Int) = cmpI a b by unfold cmpI; rw [if_neg (by omega), if_pos (by omega)])
      go_enter Try.func117, Try.ntmps117
      go_wp2
      go_ret
      exact ret1_int HC.out
    · have HC := Lib.hid (show (0 : Int) = cmpI a b by unfold cmpI; rw [if_neg (by omega), if_neg (by omega)])
      go_enter Try.func117, Try.ntmps117
      go_wp2
      go_ret
      exact ret1_int HC.out
theorem cmp_Or2 (x y : Int) (w : World) (g c : Nat) (h0 : w.cell? ⟨g, 0, none⟩ = some (.int .i64 x)) (h1 : w.cell? ⟨g, 1, none⟩ = some (.int .i64 y)) :
    Calls Try.prog 115 #[.slice (some ⟨g, 0, none⟩) 2 c] w fun e w' => e = .returned (.int .i64 (orI x y)) ∧ w = w' := by
  go_enter Try.func115, Try.ntmps115
  go_wp2
  go_loop [8] (fun s => ∃ k : Nat, s = .int .i64 k ∧ k ≤ 2 ∧ (0 < k → x = 0) ∧ (1 < k → y = 0)) (fun s => 2 - (intOf s).toNat)
  case atStart => exact ⟨0, rfl, by omega, fun h => by omega, fun h => by omega⟩
  case round =>
    obtain ⟨k, rfl, hk, hx, hy⟩ := hrel
    have hk3 : k = 0 ∨ k = 1 ∨ k = 2 := by omega
    rcases hk3 with rfl | rfl | rfl
    · clear hx hy
      by_cases hx : x = 0
      · have hb : (x != 0) = false := bne_eq_false_iff_eq.2 hx
        have HX := Lib.hid hx
        clear hx
        go_wp2
        go_round
        case rel => exact ⟨1, by go_num, by omega, fun _ => HX.out, fun h => by omega⟩
        case measure => simp [intOf]
      · have hb : (x != 0) = true := bne_iff_ne.2 hx
        have HX := Lib.hid hx
        clear hx
        go_wp2
        go_ret
        exact ret1_int (by unfold orI; rw [if_pos HX.out])
    · have hx := hx (by omega)
      have HX := Lib.hid hx
      clear hx hy
      by_cases hy : y = 0
      · have hb : (y != 0) = false := bne_eq_false_iff_eq.2 hy
        have HY := Lib.hid hy
        clear hy
        go_wp2
        go_round
        case rel => exact ⟨2, by go_num, by omega, fun _ => HX.out, fun h => HY.out⟩
        case measure => simp [intOf]
      · have hb : (y != 0) = true := bne_iff_ne.2 hy
        clear hy
        go_wp2
        go_ret
        exact ret1_int (by unfold orI; rw [if_neg (by simp [HX.out])])
    · have hx := hx (by omega)
      have hy := hy (by omega)
      have HX := Lib.hid hx
      have HY := Lib.hid hy
      clear hx hy
      go_wp2
      go_ret
      exact ret1_int (by unfold orI; rw [if_neg (by simp [HX.out])] <;> exact HY.out.symm)
theorem I64.midv {v : Int} (h : -9223372036854775808 ≤ v ∧ v ≤ 9223372036854775808) : Mid v := by unfold Mid; omega
set_option maxHeartbeats 1000000 in
theorem wide_compare (va vb : Int) (w : World) (hma : Mid va) (hmb : Mid vb) :
    Calls Try.prog 97 #[.agg #[.int .i64 (hiW va), .int .u64 (loW va : Nat)], .agg #[.int .i64 (hiW vb), .int .u64 (loW vb : Nat)]] w fun e w' => e = .returned (.int .i64 (cmpI va vb)) ∧ Below w.heap.size w w' := by
  have HW := Lib.hid (W128_cmp (W128_mk va) (W128_mk vb))
  have cI := fun W => cmp_CompareI64 (hiW va) (hiW vb) W
  have cU := fun W => cmp_CompareU64 (loW va) (loW vb) W
  clear hma hmb
  generalize cmpI (hiW va) (hiW vb) = x at *
  generalize cmpI (loW va) (loW vb) = y at *
  generalize hiW va = ahi at *
  generalize loW va = alo at *
  generalize hiW vb = bhi at *
  generalize loW vb = blo at *
  obtain ⟨W, hW⟩ : ∃ W, W = (w.alloc (.cells #[.int .i64 ahi, .int .u64 (alo : Nat)] /-T-/113)).alloc (.cells #[.int .i64 bhi, .int .u64 (blo : Nat)] /-T-/113) := ⟨_, rfl⟩
  have k0 : W.cell? ⟨w.heap.size, 0, none⟩ = some (.int .i64 ahi) := by rw [hW]; simp [go_sem]
  have k1 : W.cell? ⟨w.heap.size, 1, none⟩ = some (.int .u64 (alo : Nat)) := by rw [hW]; simp [go_sem]
  have l0 : W.cell? ⟨w.heap.size + 1, 0, none⟩ = some (.int .i64 bhi) := by rw [hW]; simp [go_sem]
  have l1 : W.cell? ⟨w.heap.size + 1, 1, none⟩ = some (.int .u64 (blo : Nat)) := by rw [hW]; simp [go_sem]
  have hB : Below w.heap.size w W := by rw [hW]; exact ((Below.refl _ _).alloc (Nat.le_refl _) _).alloc (by simp) _
  go_enter Try.func97, Try.ntmps97
  go_wp2_with fail
  rw [← hW]
  clear hW
  have a0 := After.cell k0
  have a1 := After.cell k1
  have a2 := After.cell l0
  have a3 := After.cell l1
  refine wp_region_mix [(10, 3)] (by kernel_rfl) (by kernel_rfl) ?_
  simp only [wpMix, List.take_succ_cons, List.take_zero, List.drop_succ_cons, List.drop_zero]
  repeat (go_big_quiet_step (first | (go_at_call 116; with_reducible exact after_same (cI _)) | (go_at_call 117; with_reducible exact after_same (cU _))))
  refine wpQuiet_nil ?_
  intro w1 hb1
  have hB1 := hB.trans (hb1.mono hB.size)
  clear a0 a1 a2 a3 k0 k1 l0 l1 cI cU hb1 hB
  go_wp2_with fail
  refine (cmp_Or2 x y _ w1.heap.size 2 (by simp [World.cell?_alloc_new]) (by simp [World.cell?_alloc_new])).mono ?_
  rintro e w' ⟨rfl, rfl⟩
  go_wp2_with fail
  refine mixQ_normal (wpQuiet_nil ?_)
  intro w2 hb2
  have hB2 : Below w.heap.size w w2 := (hB1.alloc hB1.size _).trans (hb2.mono (by have := hB1.size; simp; omega))
  clear hb2
  go_wp2_with fail
  go_ret
  rw [HW.out]
  exact ⟨rfl, hB2⟩
end Go.Proofs.Ytkogplnleiapfaa
