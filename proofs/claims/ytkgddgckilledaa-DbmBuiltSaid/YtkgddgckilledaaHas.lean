/- Walks: which points an octagon has, of the packages dbm and gnomonref12. -/
import Derived.Test.YtkgddgckilledaaWid
import Derived.Test.YtkgddgckilledaaOctE
namespace Go.Proofs.Ytkgddgckilledaa
open Go.RowKit
set_option linter.unusedVariables false
set_option linter.unusedSimpArgs false
open Gn
theorem tdiv_two (a : Int) : ∃ q r : Int, a.tdiv 2 = q ∧ a.tmod 2 = r ∧ a = 2 * q + r ∧ (0 ≤ a → 0 ≤ r ∧ r ≤ 1 ∧ a / 2 = q ∧ a % 2 = r) ∧ (a < 0 → -1 ≤ r ∧ r ≤ 0) := by
  refine ⟨a.tdiv 2, a.tmod 2, rfl, rfl, (Int.mul_tdiv_add_tmod a 2).symm, fun h => ?_, fun h => ?_⟩
  · rw [Int.tdiv_eq_ediv_of_nonneg h, Int.tmod_eq_emod_of_nonneg h]; omega
  · have h1 := Int.neg_tmod (a := a) (b := 2)
    have h2 := Int.tmod_eq_emod_of_nonneg (a := -a) (b := 2) (by omega)
    omega
namespace Gn
/-- A number, or its negative. -/
def sg (neg : Bool) (a : Int) : Int := if neg then -a else a
def hh (v : Int) : Int := v / 2
def hl (v : Int) : Int := v % 2
theorem sg_false (a : Int) : sg false a = a := rfl
theorem sg_true (a : Int) : sg true a = -a := rfl
end Gn
set_option maxHeartbeats 1000000 in
theorem ref_half (a : Int) (neg : Bool) (w : World) (ha : I64 a) :
    Calls Try.prog 68 #[.int .i64 a, .bool neg] w fun e w' => e = .returned (.tuple #[.int .i64 (hh (sg neg a)), .int .i64 (hl (sg neg a))]) ∧ w = w' := by
  obtain ⟨q, r, hq, hr, hs, hp, hn⟩ := tdiv_two a
  obtain ⟨h1, h2⟩ := ha
  rcases neg with _ | _
  · by_cases h0 : 0 ≤ a
    · obtain ⟨p1, p2, p3, p4⟩ := hp h0
      have HS := Lib.hid (show q = hh (sg false a) ∧ r = hl (sg false a) by unfold hh hl; rw [sg_false]; omega)
      clear hs hp hn
      go_enter Try.func68, Try.ntmps68
      go_wp2_with fail
      go_ret2
      exact ret2_int HS.out.1 HS.out.2
    · obtain ⟨p1, p2⟩ := hn (by omega)
      clear hp hn
      by_cases hr0 : r < 0
      · have HS := Lib.hid (show q - 1 = hh (sg false a) ∧ 1 = hl (sg false a) by unfold hh hl; rw [sg_false]; omega)
        have b1 : -9223372036854775807 ≤ q ∧ q ≤ 0 := by omega
        clear hs
        go_enter Try.func68, Try.ntmps68
        go_wp2_with fail
        go_ret2
        exact ret2_int HS.out.1 HS.out.2
      · have HS := Lib.hid (show q = hh (sg false a) ∧ r = hl (sg false a) by unfold hh hl; rw [sg_false]; omega)
        have b1 : -9223372036854775807 ≤ q ∧ q ≤ 0 := by omega
        clear hs
        go_enter Try.func68, Try.ntmps68
        go_wp2_with fail
        go_ret2
        exact ret2_int HS.out.1 HS.out.2
  · by_cases h0 : 0 ≤ a
    · obtain ⟨p1, p2, p3, p4⟩ := hp h0
      clear hp hn
      have b1 : 0 ≤ q ∧ q ≤ 4611686018427387904 := by omega
      by_cases hr0 : r = 0
      · have HS := Lib.hid (show -q = hh (sg true a) ∧ 0 = hl (sg true a) by unfold hh hl; rw [sg_true]; omega)
        have hr1 : ¬ -r < 0 := by omega
        clear hs
        go_enter Try.func68, Try.ntmps68
        go_wp2_with fail
        all_goals go_ret2
        exact ret2_int HS.out.1 HS.out.2
      · have HS := Lib.hid (show -q - 1 = hh (sg true a) ∧ 1 = hl (sg true a) by unfold hh hl; rw [sg_true]; omega)
        have hr1 : -r < 0 := by omega
        clear hs hr0
        go_enter Try.func68, Try.ntmps68
        go_wp2_with fail
        go_ret2
        exact ret2_int HS.out.1 HS.out.2
    · obtain ⟨p1, p2⟩ := hn (by omega)
      have b1 : -4611686018427387904 ≤ q ∧ q ≤ 0 := by omega
      have HS := Lib.hid (show -q = hh (sg true a) ∧ -r = hl (sg true a) by unfold hh hl; rw [sg_true]; omega)
      clear hp hn hs
      go_enter Try.func68, Try.ntmps68
      go_wp2_with fail
      go_ret2
      exact ret2_int HS.out.1 HS.out.2
namespace Gn
/-- What Diff tells of a difference. -/
def diffV (v : Int) : Int := if 4611686018427387904 < v then 0 else if v < -4611686018427387904 then 0 else v
def diffF (v : Int) : Int := if 4611686018427387904 < v then 1 else if v < -4611686018427387904 then -1 else 0
theorem diff_hi {v : Int} (h : 4611686018427387904 < v) : 0 = diffV v ∧ 1 = diffF v := by unfold diffV diffF; rw [if_pos h, if_pos h]; exact ⟨rfl, rfl⟩
theorem diff_lo {v : Int} (h : v < -4611686018427387904) : 0 = diffV v ∧ -1 = diffF v := by
  have h' : ¬ 4611686018427387904 < v := by omega
  unfold diffV diffF; rw [if_neg h', if_neg h', if_pos h, if_pos h]; exact ⟨rfl, rfl⟩
theorem diff_in {v u : Int} (h : ¬ 4611686018427387904 < v) (h' : ¬ v < -4611686018427387904) (hu : u = v) : u = diffV v ∧ 0 = diffF v := by subst hu; unfold diffV diffF; rw [if_neg h, if_neg h, if_neg h', if_neg h']; exact ⟨rfl, rfl⟩
theorem hh_hl (v : Int) : v = 2 * hh v + hl v ∧ 0 ≤ hl v ∧ hl v ≤ 1 := by unfold hh hl; omega
end Gn
theorem ret2 {k l : IntKind} {x y x' y' : Int} (h : x = x' ∧ y = y') : Ending.returned (.tuple #[.int k x, .int l y]) = .returned (.tuple #[.int k x', .int l y']) := by rw [h.1, h.2]
set_option maxHeartbeats 2000000 in
theorem ref_Diff (A : Option Addr) (c : Nat) (x : List Int) (i j : Nat) (w : World) (hr : Rd w w.heap.size .i64 A x.length (nth x)) (hx : ∀ v ∈ x, I64 v) (hi : i / 2 < x.length) (hj : j / 2 < x.length) (hm : (x.length : Int) ≤ 9223372036854775807) (hi2 : i < 1000000) (hj2 : j < 1000000) :
    Calls Try.prog 40 #[.slice A x.length c, .int .i64 i, .int .i64 j] w fun e w' => e = .returned (.tuple #[.int .i64 (diffV (apartV x i j)), .int .i64 (diffF (apartV x i j))]) ∧ Below w.heap.size w w' := by
  have ha := hx _ (nth_mem hi)
  have hb := hx _ (nth_mem hj)
  obtain ⟨g, off, rfl, hg, hcell⟩ := hr (by omega)
  have hca := hcell _ hi
  have hcb := hcell _ hj
  have mi : (i : Int).tmod 2 = ((i % 2 : Nat) : Int) := by rw [Int.tmod_eq_emod_of_nonneg (by omega)]; omega
  have mi' : (i : Int) % 2 = ((i % 2 : Nat) : Int) := by omega
  have mj : (j : Int).tmod 2 = ((j % 2 : Nat) : Int) := by rw [Int.tmod_eq_emod_of_nonneg (by omega)]; omega
  have mj' : (j : Int) % 2 = ((j % 2 : Nat) : Int) := by omega
  have di : (i : Int) / 2 = ((i / 2 : Nat) : Int) := by omega
  have dj : (j : Int) / 2 = ((j / 2 : Nat) : Int) := by omega
  have hS1 : sideV x i = if i % 2 = 1 then -(nth x (i / 2)) else nth x (i / 2) := rfl
  have hS2 : sideV x j = if j % 2 = 1 then -(nth x (j / 2)) else nth x (j / 2) := rfl
  have hap : apartV x i j = sideV x i - sideV x j := rfl
  have hqi : i / 2 < x.length := hi
  have hqj : j / 2 < x.length := hj
  clear hcell hr hx hi hj
  generalize nth x (i / 2) = a at *
  generalize nth x (j / 2) = b at *
  obtain ⟨pi, hpi⟩ : ∃ p, p = decide (i % 2 = 1) := ⟨_, rfl⟩
  obtain ⟨pj, hpj⟩ : ∃ p, p = decide (j % 2 = 0) := ⟨_, rfl⟩
  have bi : (((i % 2 : Nat) : Int) == 1) = pi := by rw [hpi, Bool.eq_iff_iff, beq_iff_eq, decide_eq_true_eq]; omega
  have bj : (((j % 2 : Nat) : Int) == 0) = pj := by rw [hpj, Bool.eq_iff_iff, beq_iff_eq, decide_eq_true_eq]; omega
  have s1 : sideV x i = sg pi a := by rw [hS1, hpi]; unfold sg; by_cases h : i % 2 = 1 <;> simp [h]
  have s2 : -sideV x j = sg pj b := by
    rw [hS2, hpj]; unfold sg
    by_cases h : j % 2 = 1
    · rw [if_pos h]; simp [show ¬ j % 2 = 0 by omega]
    · rw [if_neg h]; simp [show j % 2 = 0 by omega]
  have g1 := hh_hl (sg pi a)
  have g2 := hh_hl (sg pj b)
  have cA := fun W => ref_half a pi W ha
  have cB := fun W => ref_half b pj W hb
  have e1 : sideV x i = 2 * hh (sg pi a) + hl (sg pi a) := s1.trans g1.1
  have e2 : -sideV x j = 2 * hh (sg pj b) + hl (sg pj b) := s2.trans g2.1
  obtain ⟨_, l1, l2⟩ := g1
  obtain ⟨_, l3, l4⟩ := g2
  have r1 : -9223372036854775808 ≤ sideV x i ∧ sideV x i ≤ 9223372036854775808 := by unfold I64 at ha; rw [s1]; unfold sg; split <;> omega
  have r2 : -9223372036854775808 ≤ -sideV x j ∧ -sideV x j ≤ 9223372036854775808 := by unfold I64 at hb; rw [s2]; unfold sg; split <;> omega
  clear hS1 hS2 s1 s2 hpi hpj
  generalize hh (sg pi a) = H at *
  generalize hl (sg pi a) = L at *
  generalize hh (sg pj b) = H2 at *
  generalize hl (sg pj b) = L2 at *
  have hv : apartV x i j = 2 * (H + H2) + (L + L2) := by omega
  have hH : -4611686018427387904 ≤ H ∧ H ≤ 4611686018427387904 := by omega
  have hH2 : -4611686018427387904 ≤ H2 ∧ H2 ≤ 4611686018427387904 := by omega
  have HV := Lib.hid hv
  generalize apartV x i j = v at *
  clear hap hv r1 r2 e1 e2
  obtain ⟨hH1, hH2'⟩ := hH
  obtain ⟨hH3, hH4⟩ := hH2
  generalize i / 2 = qi at *
  generalize j / 2 = qj at *
  generalize i % 2 = ri at *
  generalize j % 2 = rj at *
  go_enter Try.func40, Try.ntmps40
  go_wp2_with fail
  have a1 := After.cell hca
  have a2 := After.cell hcb
  refine wp_region_after (by kernel_rfl) (by kernel_rfl) ?_
  repeat (go_big_quiet_step (fail))
  refine wpQuiet_nil ?_
  intro w1 hB
  clear a1 a2 hca hcb
  go_wp2_with (first | (go_at_call 68; with_reducible refine (cA _).mono ?_; rintro e w' ⟨rfl, rfl⟩) | (go_at_call 68; with_reducible refine (cB _).mono ?_; rintro e w' ⟨rfl, rfl⟩))
  all_goals
    go_ret2
    have hv := HV.out
    first
    | (refine ⟨ret2 (diff_hi ?_), hB⟩; omega)
    | (refine ⟨ret2 (diff_lo ?_), hB⟩; omega)
    | (refine ⟨ret2 (diff_in ?_ ?_ ?_), hB⟩ <;> omega)
end Go.Proofs.Ytkgddgckilledaa
