/- Walks: Get, of the packages dbm and gnomonref12. -/
import Derived.Test.YtkogplnleiapfaaOctQ
namespace Go.Proofs.Ytkogplnleiapfaa
open Go.RowKit
set_option linter.unusedVariables false
set_option linter.unusedSimpArgs false
open Gn
theorem chk_zero {N : Int} {E : Bool} {M : List Int} (h : chk N E M = 0) : ∃ n : Nat, N = n ∧ n ≤ 64 ∧ (E = true → M = []) ∧ (E = false → M.length = 4 * n * n ∧ okM (2 * n) M) := by
  unfold chk at h
  split at h
  · cases h
  · rename_i hs
    have hN : 0 ≤ N ∧ N ≤ 64 := by omega
    obtain ⟨n, rfl⟩ := Int.eq_ofNat_of_zero_le hN.1
    refine ⟨n, rfl, by omega, fun hE => ?_, fun hE => ?_⟩
    · exact List.eq_nil_of_length_eq_zero (by
        rcases Nat.eq_zero_or_pos M.length with h0 | h0
        · exact h0
        · exact absurd (.inr (.inr (.inl ⟨hE, h0⟩))) hs)
    · refine ⟨?_, ?_⟩
      · have : ¬ ((M.length : Int) ≠ 4 * (n : Int) * n) := fun hne => hs (.inr (.inr (.inr ⟨hE, hne⟩)))
        have : (M.length : Int) = 4 * (n : Int) * n := by omega
        have e : 4 * (n : Int) * n = ((4 * n * n : Nat) : Int) := by push_cast; rfl
        omega
      · rw [if_neg (by simp [hE])] at h
        split at h
        · rename_i hk; simpa using hk
        · cases h
theorem chk_rng {N : Int} {E : Bool} {M : List Int} : chk N E M = 0 ∨ chk N E M = 120 ∨ chk N E M = 121 := by
  unfold chk; split
  · simp
  · split
    · simp
    · split <;> simp
/-- Is (i, j) a cell of an octagon of n variables? -/
def inM (n : Nat) (i j : Int) : Bool := decide (0 ≤ i ∧ i < 2 * n ∧ 0 ≤ j ∧ j < 2 * n)
theorem inM_iff {n : Nat} {i j : Int} : inM n i j = true ↔ ∃ a b : Nat, i = a ∧ j = b ∧ a < 2 * n ∧ b < 2 * n := by
  unfold inM
  rw [decide_eq_true_eq]
  constructor
  · rintro ⟨h1, h2, h3, h4⟩
    exact ⟨i.toNat, j.toNat, by omega, by omega, by omega, by omega⟩
  · rintro ⟨a, b, rfl, rfl, h1, h2⟩
    omega
theorem dbm_within (n : Nat) (E : Bool) (v : Value) (i j : Int) (w : World) (hn : n ≤ 64) :
    Calls Try.prog 128 #[.agg #[.int .i64 n, .bool E, v], .int .i64 i, .int .i64 j] w fun e w' => e = .returned (.bool (inM n i j)) ∧ Below w.heap.size w w' := by
  have hB : Below w.heap.size w (w.alloc (.cells #[.int .i64 n, .bool E, v] /-T-/24)) := (Below.refl _ _).alloc (Nat.le_refl _) _
  by_cases h1 : 0 ≤ i
  · by_cases h2 : i < 2 * n
    · by_cases h3 : 0 ≤ j
      · by_cases h4 : j < 2 * n
        · rw [show inM n i j = true from decide_eq_true ⟨h1, h2, h3, h4⟩]
          go_enter Try.func128, Try.ntmps128
          go_wp2_with fail
          go_ret
          exact ⟨rfl, hB⟩
        · rw [show inM n i j = false from decide_eq_false (by omega)]
          go_enter Try.func128, Try.ntmps128
          go_wp2_with fail
          go_ret
          exact ⟨rfl, hB⟩
      · rw [show inM n i j = false from decide_eq_false (by omega)]
        go_enter Try.func128, Try.ntmps128
        go_wp2_with fail
        go_ret
        exact ⟨rfl, hB⟩
    · rw [show inM n i j = false from decide_eq_false (by omega)]
      go_enter Try.func128, Try.ntmps128
      go_wp2_with fail
      go_ret
      exact ⟨rfl, hB⟩
  · rw [show inM n i j = false from decide_eq_false (by omega)]
    go_enter Try.func128, Try.ntmps128
    go_wp2_with fail
    go_ret
    exact ⟨rfl, hB⟩
/-- What Get tells. -/
def getP (N : Int) (E : Bool) (M : List Int) (i j : Int) : Int × Int :=
  if chk N E M ≠ 0 then (0, chk N E M) else if inM N.toNat i j = true ∧ E = false then (cl (2 * N.toNat) M i.toNat j.toNat, 0) else (0, 122)
theorem getP_bad {N : Int} {E : Bool} {M : List Int} (i j : Int) (h : chk N E M ≠ 0) : getP N E M i j = (0, chk N E M) := by unfold getP; rw [if_pos h]
theorem getP_out {n : Nat} {E : Bool} {M : List Int} {i j : Int} (h : chk n E M = 0) (h' : ¬ (inM n i j = true ∧ E = false)) : getP n E M i j = (0, 122) := by
  unfold getP; rw [if_neg (by omega), if_neg (by simpa using h')]
theorem getP_in {n a b : Nat} {M : List Int} (h : chk n false M = 0) (ha : a < 2 * n) (hb : b < 2 * n) : getP n false M a b = (cl (2 * n) M a b, 0) := by
  unfold getP
  rw [if_neg (by omega), if_pos ⟨by rw [Int.toNat_natCast]; exact inM_iff.2 ⟨a, b, rfl, rfl, ha, hb⟩, rfl⟩]
  simp
theorem one_box (w : World) (t : TypeId) (N : Int) (E : Bool) (v : Value) : ∃ W, W = w.alloc (.cells #[.int .i64 N, .bool E, v] t) ∧ OctAt W w.heap.size N E v ∧ Below w.heap.size w W ∧ W.heap.size = w.heap.size + 1 :=
  ⟨_, rfl, OctAt.box _ _ _ _ _, (Below.refl _ _).alloc (Nat.le_refl _) _, by simp⟩
set_option maxHeartbeats 1000000 in
theorem dbm_Get (N : Int) (E : Bool) (A : Option Addr) (c : Nat) (M : List Int) (i j : Int) (w : World) (h : OctIn w w.heap.size A c N M) :
    Calls Try.prog 110 #[.agg #[.int .i64 N, .bool E, .slice A M.length c], .int .i64 i, .int .i64 j] w fun e w' => e = .returned (.tuple #[.int .i64 (getP N E M i j).1, .int .i64 (getP N E M i j).2]) ∧ Below w.heap.size w w' := by
  obtain ⟨W, hW, h1, hB, hs⟩ := one_box w 24 N E (.slice A M.length c)
  have hW1 := h.go hB
  have cC := dbm_Check A c N E M W hW1
  obtain ⟨k0, k1, k2⟩ := id h1
  go_enter Try.func110, Try.ntmps110
  go_wp2_with fail
  rw [← hW]
  clear hW
  refine cC.mono ?_
  clear cC
  rintro e w1 ⟨rfl, hb1⟩
  have hB1 := hB.trans (hb1.mono (by omega))
  have HB1 := Lib.hid hB1
  have hoct := hW1.go hb1
  obtain ⟨m0, m1, m2⟩ := id (h1.below hb1)
  clear k0 k1 k2 hb1 hB1
  by_cases hc : chk N E M = 0
  · obtain ⟨n, rfl, hn, hE1, hE0⟩ := chk_zero hc
    have hc' : (chk n E M != 0) = false := bne_eq_false_iff_eq.2 hc
    have HC := Lib.hid hc
    rw [hc]
    clear hc hc'
    have cW := fun W => dbm_within n E (.slice A M.length c) i j W hn
    by_cases hin : inM n i j = true
    · rw [hin] at cW
      go_wp2_with fail
      refine (cW _).mono ?_
      clear cW
      rintro e w2 ⟨rfl, hb2⟩
      have hB2 := HB1.out.trans (hb2.mono HB1.out.size)
      have HB2 := Lib.hid hB2
      have hoct2 := hoct.go hb2
      have p0 := below_cell hb2 m0
      have p1 := below_cell hb2 m1
      have p2 := below_cell hb2 m2
      clear m0 m1 m2 hb2 hB2
      rcases E with _ | _
      · obtain ⟨a, b, rfl, rfl, ha, hb⟩ := inM_iff.1 hin
        obtain ⟨hl, hok⟩ := hE0 rfl
        have hg0 := getP_in HC.out ha hb
        unfold cl at hg0
        have hp : a * (2 * n) + b < M.length := by rw [hl, ← sq2]; exact idx_lt ha hb
        obtain ⟨g, off, rfl, hg, hcell⟩ := hoct2.rd (by omega)
        have hcv := hcell _ hp
        have cA := fun W => cell_at a b n W (by omega) (by omega) (by omega)
        have hM : (M.length : Int) ≤ 9223372036854775807 := hoct2.len
        clear hcell hok hl hE0 hE1 hin
        generalize nth M (a * (2 * n) + b) = v at *
        generalize a * (2 * n) + b = p at *
        have HG := Lib.hid hg0
        clear hg0
        go_wp2_with fail
        have a0 := After.cell p0
        have a2 := After.cell p2
        have a3 := After.cell hcv
        have q1 : (p : Int) < (M.length : Int) := by omega
        have q2 : (0 : Int) ≤ (p : Int) := by omega
        refine wp_region_after (by kernel_rfl) (by kernel_rfl) ?_
        repeat (go_big_quiet_step ((go_at_call 95; with_reducible exact after_of (cA _))))
        refine wpQuiet_nil ?_
        intro w3 hb3
        go_wp2_with fail
        go_ret2
        rw [HG.out]
        exact ⟨rfl, HB2.out.trans (hb3.mono HB2.out.size)⟩
      · go_wp2_with fail
        go_ret2
        rw [getP_out HC.out (by simp)]
        exact ⟨rfl, HB2.out⟩
    · have hin' : inM n i j = false := by simpa using hin
      rw [hin'] at cW
      have HG := Lib.hid (getP_out HC.out (i := i) (j := j) (by simp [hin']))
      clear hin hin'
      go_wp2_with fail
      refine (cW _).mono ?_
      clear cW
      rintro e w2 ⟨rfl, hb2⟩
      have hB2 := HB1.out.trans (hb2.mono HB1.out.size)
      have HB2 := Lib.hid hB2
      go_wp2_with fail
      go_ret2
      rw [HG.out]
      exact ⟨rfl, HB2.out⟩
  · have HG := Lib.hid (getP_bad i j hc)
    have hc' : (chk N E M != 0) = true := bne_iff_ne.2 hc
    clear hc
    generalize chk N E M = cc at *
    go_wp2_with fail
    go_ret2
    rw [HG.out]
    exact ⟨rfl, HB1.out⟩
theorem inM_eq (n : Nat) (i j : Int) : inM n i j = (decide (0 ≤ i ∧ i < 2 * n) && decide (0 ≤ j ∧ j < 2 * n)) := by
  unfold inM; rw [Bool.eq_iff_iff]; simp [and_assoc]
end Go.Proofs.Ytkogplnleiapfaa
