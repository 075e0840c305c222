/- Walks: octagons held against one another. -/
import Derived.Test.YtkgddgckilledaaOctM
import Derived.Test.YtkgddgckilledaaOctR
namespace Go.Proofs.Ytkgddgckilledaa
open Go.RowKit
set_option linter.unusedVariables false
set_option linter.unusedSimpArgs false
open Gn
set_option maxHeartbeats 1000000 in
theorem help_Longs (A A' : Option Addr) (c c' : Nat) (xs ys : List Int) (w : World) (hx : Rd w w.heap.size .i64 A xs.length (nth xs)) (hy : Rd w w.heap.size .i64 A' ys.length (nth ys)) (hm : (xs.length : Int) ≤ 9223372036854775807) (hm' : (ys.length : Int) ≤ 9223372036854775807) :
    Calls Try.prog 31 #[.slice A xs.length c, .slice A' ys.length c'] w fun e w' => e = .returned (.bool (decide (xs = ys))) ∧ Below w.heap.size w w' := by
  by_cases hl : xs.length = ys.length
  · have hl' : ((xs.length : Int) != ys.length) = false := bne_eq_false_iff_eq.2 (by omega)
    have HL := Lib.hid hl
    clear hl
    go_enter Try.func31, Try.ntmps31
    go_wp2_with fail
    go_loopw [5] (fun s wr => ∃ i : Nat, s = .int .i64 i ∧ i ≤ xs.length ∧ (∀ k, k < i → nth xs k = nth ys k) ∧ Below w.heap.size w wr) (fun s _ => xs.length - (intOf s).toNat)
    case atStart => exact ⟨0, rfl, by omega, fun _ h => absurd h (by omega), Below.refl _ _⟩
    case round =>
      obtain ⟨i, rfl, hi, hk, hB⟩ := hrel
      rename_i wr _
      have HK := Lib.hid hk
      clear hk
      rcases Nat.lt_or_ge i xs.length with hlt | hge
      · have hlt2 : i < ys.length := by rw [← HL.out]; exact hlt
        have hxr := hx.below hB
        have hyr := hy.below hB
        obtain ⟨g, off, rfl, hg, hc⟩ := hxr (by omega)
        obtain ⟨g', off', rfl, hg', hc'⟩ := hyr (by omega)
        have k1 := hc i hlt
        have k2 := hc' i hlt2
        obtain ⟨v, hv0⟩ : ∃ v, v = nth xs i := ⟨_, rfl⟩
        obtain ⟨v', hv1⟩ : ∃ v, v = nth ys i := ⟨_, rfl⟩
        rw [← hv0] at k1
        rw [← hv1] at k2
        have HX := Lib.hid (show (v = v' → nth xs i = nth ys i) ∧ (v ≠ v' → xs ≠ ys) from ⟨fun h => by rw [← hv0, ← hv1, h], fun h e => h (by rw [hv0, hv1, e])⟩)
        clear hv0 hv1
        clear hx hy hxr hyr hc hc'
        have a1 := After.cell k1
        have a2 := After.cell k2
        have q1 : (i : Int) < (xs.length : Int) := by omega
        have q2 : (i : Int) < (ys.length : Int) := by omega
        have q3 : (0 : Int) ≤ (i : Int) := by omega
        have HB := Lib.hid hB
        clear hB
        by_cases hv : v = v'
        · have hb : (v != v') = false := bne_eq_false_iff_eq.2 hv
          have HV := Lib.hid hv
          clear hv
          go_wp2_with fail
          refine wp_region_after (by kernel_rfl) (by kernel_rfl) ?_
          repeat (go_big_quiet_step (fail))
          refine wpQuiet_nil ?_
          intro w2 hb2
          have HB2 := Lib.hid (HB.out.trans (hb2.mono HB.out.size))
          clear hb2 a1 a2
          go_wp2_with fail
          go_roundw
          case rel => exact ⟨i + 1, by go_num, by omega, fun k h => by
            rcases Nat.lt_or_ge k i with h1 | h1
            · exact HK.out k h1
            · obtain rfl : k = i := by omega
              exact HX.out.1 HV.out, HB2.out⟩
          case measure => simp [intOf]; omega
        · have hb : (v != v') = true := bne_iff_ne.2 hv
          have HV := Lib.hid hv
          clear hv
          go_wp2_with fail
          refine wp_region_after (by kernel_rfl) (by kernel_rfl) ?_
          repeat (go_big_quiet_step (fail))
          refine wpQuiet_nil ?_
          intro w2 hb2
          have HB2 := Lib.hid (HB.out.trans (hb2.mono HB.out.size))
          clear hb2 a1 a2
          go_wp2_with fail
          go_ret
          rw [show decide (xs = ys) = false from decide_eq_false (HX.out.2 HV.out)]
          exact ⟨rfl, HB2.out⟩
      · have e : xs = ys := list_eq_nth HL.out (fun k h => HK.out k (by omega))
        have hd : decide (xs = ys) = true := decide_eq_true e
        have HD := Lib.hid hd
        clear e hd
        go_wp2_with fail
        go_ret
        rw [HD.out]
        exact ⟨rfl, hB⟩
  · have hl' : ((xs.length : Int) != ys.length) = true := bne_iff_ne.2 (by omega)
    rw [show decide (xs = ys) = false from decide_eq_false (fun h => hl (by rw [h]))]
    clear hl
    go_enter Try.func31, Try.ntmps31
    go_wp2_with fail
    go_ret
    exact ⟨rfl, Below.refl _ _⟩
theorem two_boxes (w : World) (t : TypeId) (N N' : Int) (E E' : Bool) (v v' : Value) : ∃ W, W = (w.alloc (.cells #[.int .i64 N, .bool E, v] t)).alloc (.cells #[.int .i64 N', .bool E', v'] t) ∧
    OctAt W w.heap.size N E v ∧ OctAt W (w.heap.size + 1) N' E' v' ∧ Below w.heap.size w W ∧ W.heap.size = w.heap.size + 2 :=
  ⟨_, rfl, (OctAt.box _ _ _ _ _).alloc _, by
    have := OctAt.box (w.alloc (.cells #[.int .i64 N, .bool E, v] t)) t N' E' v'
    rwa [show (w.alloc (.cells #[.int .i64 N, .bool E, v] t)).heap.size = w.heap.size + 1 by simp] at this, ((Below.refl _ _).alloc (Nat.le_refl _) _).alloc (by simp) _, by simp⟩
set_option maxHeartbeats 1000000 in
theorem help_Oct (N N' : Int) (E E' : Bool) (A A' : Option Addr) (c c' : Nat) (xs ys : List Int) (w : World) (hx : Rd w w.heap.size .i64 A xs.length (nth xs)) (hy : Rd w w.heap.size .i64 A' ys.length (nth ys)) (hm : (xs.length : Int) ≤ 9223372036854775807) (hm' : (ys.length : Int) ≤ 9223372036854775807) :
    Calls Try.prog 16 #[.agg #[.int .i64 N, .bool E, .slice A xs.length c], .agg #[.int .i64 N', .bool E', .slice A' ys.length c']] w fun e w' => e = .returned (.bool (decide (N = N' ∧ E = E' ∧ xs = ys))) ∧ Below w.heap.size w w' := by
  obtain ⟨W, hW, h1, h2, hB, hs⟩ := two_boxes w 24 N N' E E' (.slice A xs.length c) (.slice A' ys.length c')
  have hxW := (hx.below hB).more hB.size
  have hyW := (hy.below hB).more hB.size
  by_cases hn : N = N'
  · have hn' : (N == N') = true := by simp [hn]
    by_cases he : E = E'
    · have he' : (E == E') = true := by simp [he]
      have cL := help_Longs A A' c c' xs ys W hxW hyW hm hm'
      rw [show decide (N = N' ∧ E = E' ∧ xs = ys) = decide (xs = ys) by simp [hn, he]]
      obtain ⟨k0, k1, k2⟩ := h1
      obtain ⟨l0, l1, l2⟩ := h2
      clear hx hy hxW hyW hn he
      generalize decide (xs = ys) = d at *
      go_enter Try.func16, Try.ntmps16
      go_wp2_with fail
      rw [← hW]
      clear hW
      go_wp2_with fail
      refine cL.mono ?_
      rintro e w1 ⟨rfl, hb⟩
      go_wp2_with fail
      go_ret
      exact ⟨rfl, hB.trans (hb.mono (by omega))⟩
    · have he' : (E == E') = false := by simp [he]
      rw [show decide (N = N' ∧ E = E' ∧ xs = ys) = false by simp [he]]
      clear hn he hx hy hxW hyW h1 h2
      go_enter Try.func16, Try.ntmps16
      go_wp2_with fail
      go_ret
      exact ⟨rfl, by rw [← hW]; exact hB⟩
  · have hn' : (N == N') = false := by simp [hn]
    rw [show decide (N = N' ∧ E = E' ∧ xs = ys) = false by simp [hn]]
    clear hn hx hy hxW hyW h1 h2
    go_enter Try.func16, Try.ntmps16
    go_wp2_with fail
    go_ret
    exact ⟨rfl, by rw [← hW]; exact hB⟩
end Go.Proofs.Ytkgddgckilledaa
namespace Go.Proofs.Ytkgddgckilledaa
open Go.RowKit
set_option linter.unusedVariables false
set_option linter.unusedSimpArgs false
open Gn
theorem maxLen_le {c : Nat} (h : c ≤ maxLen) : (c : Int) ≤ 9223372036854775807 := by unfold maxLen at h; omega
section
variable {w w' : World} {B : Nat} {A : Option Addr} {c : Nat} {N : Int} {M : List Int}
theorem OctIn.below (h : OctIn w B A c N M) (hb : Below B w w') : OctIn w' B A c N M := ⟨h.hN, h.rd.below hb, h.i64, h.le, h.max⟩
theorem OctIn.more (h : OctIn w B A c N M) {B' : Nat} (hB : B ≤ B') : OctIn w B' A c N M := ⟨h.hN, h.rd.more hB, h.i64, h.le, h.max⟩
theorem OctIn.go (h : OctIn w w.heap.size A c N M) (hb : Below w.heap.size w w') : OctIn w' w'.heap.size A c N M := (h.below hb).more hb.size
theorem OctIn.len (h : OctIn w B A c N M) : (M.length : Int) ≤ 9223372036854775807 := by
  have := maxLen_le h.max
  have := h.le
  omega
end
/-- Are two octagons the same, and may they be? -/
def eqO (N N' : Int) (E E' : Bool) (M M' : List Int) : Bool := decide (chk N E M = 0 ∧ chk N' E' M' = 0 ∧ N = N' ∧ E = E' ∧ M = M')
theorem eqO_def (N N' : Int) (E E' : Bool) (M M' : List Int) : eqO N N' E E' M M' = decide (chk N E M = 0 ∧ chk N' E' M' = 0 ∧ N = N' ∧ E = E' ∧ M = M') := rfl
end Go.Proofs.Ytkgddgckilledaa
namespace Go.Proofs.Ytkgddgckilledaa
open Go.RowKit
set_option linter.unusedVariables false
set_option linter.unusedSimpArgs false
open Gn
theorem chk_zero {N : Int} {E : Bool} {M : List Int} (h : chk N E M = 0) : ∃ n : Nat, N = n ∧ n ≤ 64 ∧ (E = true → M = []) ∧ (E = false → M.length = 4 * n * n ∧ okM (2 * n) M) := by
  unfold chk at h
  split at h
  · cases h
  · rename_i hs
    have hN : 0 ≤ N ∧ N ≤ 64 := by omega
    obtain ⟨n, rfl⟩ := Int.eq_ofNat_of_zero_le hN.1
    refine ⟨n, rfl, by omega, fun hE => ?_, fun hE => ?_⟩
    · exact List.eq_nil_of_length_eq_zero (by
        rcases Nat.eq_zero_or_pos M.length with h0 | h0
        · exact h0
        · exact absurd (.inr (.inr (.inl ⟨hE, h0⟩))) hs)
    · refine ⟨?_, ?_⟩
      · have : ¬ ((M.length : Int) ≠ 4 * (n : Int) * n) := fun hne => hs (.inr (.inr (.inr ⟨hE, hne⟩)))
        have : (M.length : Int) = 4 * (n : Int) * n := by omega
        have e : 4 * (n : Int) * n = ((4 * n * n : Nat) : Int) := by push_cast; rfl
        omega
      · rw [if_neg (by simp [hE])] at h
        split at h
        · rename_i hk; simpa using hk
        · cases h
theorem chk_rng {N : Int} {E : Bool} {M : List Int} : chk N E M = 0 ∨ chk N E M = 120 ∨ chk N E M = 121 := by
  unfold chk; split
  · simp
  · split
    · simp
    · split <;> simp
/-- Is (i, j) a cell of an octagon of n variables? -/
def inM (n : Nat) (i j : Int) : Bool := decide (0 ≤ i ∧ i < 2 * n ∧ 0 ≤ j ∧ j < 2 * n)
theorem inM_iff {n : Nat} {i j : Int} : inM n i j = true ↔ ∃ a b : Nat, i = a ∧ j = b ∧ a < 2 * n ∧ b < 2 * n := by
  unfold inM
  rw [decide_eq_true_eq]
  constructor
  · rintro ⟨h1, h2, h3, h4⟩
    exact ⟨i.toNat, j.toNat, by omega, by omega, by omega, by omega⟩
  · rintro ⟨a, b, rfl, rfl, h1, h2⟩
    omega
theorem dbm_within (n : Nat) (E : Bool) (v : Value) (i j : Int) (w : World) (hn : n ≤ 64) :
    Calls Try.prog 48 #[.agg #[.int .i64 n, .bool E, v], .int .i64 i, .int .i64 j] w fun e w' => e = .returned (.bool (inM n i j)) ∧ Below w.heap.size w w' := by
  have hB : Below w.heap.size w (w.alloc (.cells #[.int .i64 n, .bool E, v] /-T-/24)) := (Below.refl _ _).alloc (Nat.le_refl _) _
  by_cases h1 : 0 ≤ i
  · by_cases h2 : i < 2 * n
    · by_cases h3 : 0 ≤ j
      · by_cases h4 : j < 2 * n
        · rw [show inM n i j = true from decide_eq_true ⟨h1, h2, h3, h4⟩]
          go_enter Try.func48, Try.ntmps48
          go_wp2_with fail
          go_ret
          exact ⟨rfl, hB⟩
        · rw [show inM n i j = false from decide_eq_false (by omega)]
          go_enter Try.func48, Try.ntmps48
          go_wp2_with fail
          go_ret
          exact ⟨rfl, hB⟩
      · rw [show inM n i j = false from decide_eq_false (by omega)]
        go_enter Try.func48, Try.ntmps48
        go_wp2_with fail
        go_ret
        exact ⟨rfl, hB⟩
    · rw [show inM n i j = false from decide_eq_false (by omega)]
      go_enter Try.func48, Try.ntmps48
      go_wp2_with fail
      go_ret
      exact ⟨rfl, hB⟩
  · rw [show inM n i j = false from decide_eq_false (by omega)]
    go_enter Try.func48, Try.ntmps48
    go_wp2_with fail
    go_ret
    exact ⟨rfl, hB⟩
/-- What Get tells. -/
def getP (N : Int) (E : Bool) (M : List Int) (i j : Int) : Int × Int :=
  if chk N E M ≠ 0 then (0, chk N E M) else if inM N.toNat i j = true ∧ E = false then (cl (2 * N.toNat) M i.toNat j.toNat, 0) else (0, 122)
theorem getP_bad {N : Int} {E : Bool} {M : List Int} (i j : Int) (h : chk N E M ≠ 0) : getP N E M i j = (0, chk N E M) := by unfold getP; rw [if_pos h]
theorem getP_out {n : Nat} {E : Bool} {M : List Int} {i j : Int} (h : chk n E M = 0) (h' : ¬ (inM n i j = true ∧ E = false)) : getP n E M i j = (0, 122) := by
  unfold getP; rw [if_neg (by omega), if_neg (by simpa using h')]
theorem getP_in {n a b : Nat} {M : List Int} (h : chk n false M = 0) (ha : a < 2 * n) (hb : b < 2 * n) : getP n false M a b = (cl (2 * n) M a b, 0) := by
  unfold getP
  rw [if_neg (by omega), if_pos ⟨by rw [Int.toNat_natCast]; exact inM_iff.2 ⟨a, b, rfl, rfl, ha, hb⟩, rfl⟩]
  simp
theorem one_box (w : World) (t : TypeId) (N : Int) (E : Bool) (v : Value) : ∃ W, W = w.alloc (.cells #[.int .i64 N, .bool E, v] t) ∧ OctAt W w.heap.size N E v ∧ Below w.heap.size w W ∧ W.heap.size = w.heap.size + 1 :=
  ⟨_, rfl, OctAt.box _ _ _ _ _, (Below.refl _ _).alloc (Nat.le_refl _) _, by simp⟩
theorem inM_eq (n : Nat) (i j : Int) : inM n i j = (decide (0 ≤ i ∧ i < 2 * n) && decide (0 ≤ j ∧ j < 2 * n)) := by
  unfold inM; rw [Bool.eq_iff_iff]; simp [and_assoc]
end Go.Proofs.Ytkgddgckilledaa
