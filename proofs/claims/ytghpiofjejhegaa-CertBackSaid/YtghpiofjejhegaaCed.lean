/- Numbers of places: the walks of cert.Number, gnomonref19.Number, both Cells. -/
import Derived.Test.YtghpiofjejhegaaCec
import Derived.Test.YtghpiofjejhegaaQb
import Derived.Laws.StructEq
namespace Go.Proofs.Ytghpiofjejhegaa
open Go.RowKit
set_option linter.unusedVariables false
set_option linter.unusedSimpArgs false
open Gn
set_option maxRecDepth 100000 in
set_option maxHeartbeats 4000000 in
theorem ref_places (n : Nat) (w : World) (hn : n ≤ 64) :
    Calls Try.prog 42 #[.int .i64 n] w fun e w' => ∃ A c, e = .returned (.slice A (pairs n).length c) ∧ w'.ownsRow w.heap.size 79 2 (.slice A (pairs n).length c) (pairs n).length (pv (pairs n)) ∧ Below w.heap.size w w' := by
  have hE := Try.elPlace
  have hq : (2 * n) * (2 * n) ≤ 128 * 128 := Nat.mul_le_mul (by omega) (by omega)
  have HQ := Lib.hid hq
  clear hq
  go_enter Try.func42, Try.ntmps42
  go_wp2_with fail
  go_loopw [3, 4] (fun s3 s9 wr => ∃ i : Nat, s9 = .int .i64 i ∧ i ≤ 2 * n ∧ ∃ A c, ∃ ps : List (Nat × Nat), Hid (ps = pairsTo n i) ∧ s3 = .slice A ps.length c ∧ wr.ownsRow w.heap.size 79 2 (.slice A ps.length c) ps.length (pv ps) ∧ Below w.heap.size w wr) (fun _ s _ => 2 * n - (intOf s).toNat)
  case atStart => exact ⟨0, rfl, by omega, none, 0, [], Lib.hid rfl, rfl, World.ownsRow_nil _ _ _ _, Below.refl _ _⟩
  case round =>
    obtain ⟨i, rfl, hi, A, c, ps, HP, rfl, hown, hB⟩ := hrel
    rcases Nat.lt_or_ge i (2 * n) with hlt | hge
    · have hdi : decide ((i : Int) < 2 * (n : Int)) = true := decide_eq_true (by omega)
      have hps : ps.length ≤ i * (2 * n) := by rw [HP.out]; exact pairsTo_len n i
      have HPS := Lib.hid hps
      clear hps
      go_wp2_with fail
      go_loopw [3, 5] (fun s3 s14 wr => ∃ j : Nat, s14 = .int .i64 j ∧ j ≤ 2 * n ∧ ∃ A c, ∃ qs : List (Nat × Nat), Hid (qs = ps ++ rowP i j) ∧ s3 = .slice A qs.length c ∧ wr.ownsRow w.heap.size 79 2 (.slice A qs.length c) qs.length (pv qs) ∧ Below w.heap.size w wr) (fun _ s _ => 2 * n - (intOf s).toNat)
      case atStart => exact ⟨0, rfl, by omega, A, c, ps, Lib.hid (by rw [rowP_zero, List.append_nil]), rfl, hown, hB⟩
      case round =>
        clear hown hB
        obtain ⟨j, rfl, hj, A, c, qs, HQS, rfl, hown, hB⟩ := hrel
        rcases Nat.lt_or_ge j (2 * n) with hjl | hjg
        · have hdj : decide ((j : Int) < 2 * (n : Int)) = true := decide_eq_true (by omega)
          have hql : qs.length ≤ i * (2 * n) + j := by
            have := rowP_len i j
            have := HPS.out
            rw [HQS.out, List.length_append]; omega
          have hix : i * (2 * n) + j < (2 * n) * (2 * n) := idx_lt hlt hjl
          have hsz : (qs.length + 1) * 16 ≤ 140737488355328 := by have := HQ.out; omega
          clear hql hix
          have cP := fun W => ref_First i j W (by omega) (by omega)
          by_cases hij : i = j
          · have q0 : ((i : Int) != (j : Int)) = false := bne_eq_false_iff_eq.2 (by omega)
            have HN := Lib.hid (show qs = ps ++ rowP i (j + 1) by rw [HQS.out, rowP_succ, if_neg (by unfold isP; rw [decide_eq_false (fun h => h hij)]; simp)])
            clear hij
            have HO := Lib.hid hown
            have HB := Lib.hid hB
            clear hown hB
            go_wp2_with fail
            go_roundw
            case rel => exact ⟨j + 1, by go_num, by omega, A, c, qs, HN, rfl, HO.out, HB.out⟩
            case measure => simp [intOf]; omega
          · have q0 : ((i : Int) != (j : Int)) = true := bne_iff_ne.2 (by omega)
            have HF : Hid (isP i j = fst2 i j) := Lib.hid (by unfold isP; rw [decide_eq_true hij]; rfl)
            clear hij
            obtain ⟨f, hf⟩ : ∃ f, f = fst2 i j := ⟨_, rfl⟩
            rw [← hf] at cP HF
            clear hf
            rcases f with _ | _
            · have HN := Lib.hid (show qs = ps ++ rowP i (j + 1) by rw [HQS.out, rowP_succ, if_neg (by rw [HF.out]; simp)])
              go_wp2_with fail
              with_reducible refine (cP _).mono ?_
              clear cP
              rintro e w2 ⟨rfl, rfl⟩
              have HO := Lib.hid hown
              have HB := Lib.hid hB
              clear hown hB
              go_wp2_with fail
              go_roundw
              case rel => exact ⟨j + 1, by go_num, by omega, A, c, qs, HN, rfl, HO.out, HB.out⟩
              case measure => simp [intOf]; omega
            · have HN := Lib.hid (show qs ++ [(i, j)] = ps ++ rowP i (j + 1) by rw [HQS.out, rowP_succ, if_pos HF.out, List.append_assoc])
              go_wp2_with fail
              with_reducible refine (cP _).mono ?_
              clear cP
              rintro e w2 ⟨rfl, rfl⟩
              have hown2 := hown.alloc (.cells #[.int .i64 i, .int .i64 j] 79)
              have hB3 := hB.alloc hB.size (.cells #[.int .i64 i, .int .i64 j] 79)
              have hbs := hB3.size
              clear hown hB
              go_wp2_with (at_builtin; refine wpList_appS hE (wr.alloc (.cells #[.int .i64 i, .int .i64 j] 79)) rfl _ _ rfl w.heap.size A c qs.length _ rfl hown2 [.int .i64 i, .int .i64 j] wr.heap.size rfl rfl (World.news_of_block (heap_alloc_new wr _)) (by simp [Value.oneCell']) hsz hbs ?_; intro A' c' w3 ho hb)
              have HB := Lib.hid (hB3.trans hb)
              have HO := Lib.hid ho
              clear ho hb hB3 hown2 hbs
              go_roundw
              case rel => exact ⟨j + 1, by go_num, by omega, A', c', qs ++ [(i, j)], HN, val_slice' (by simp), by rw [pv_snoc, List.length_append]; exact HO.out, HB.out⟩
              case measure => simp [intOf]; omega
        · obtain rfl : j = 2 * n := by omega
          have HN := Lib.hid (show qs = pairsTo n (i + 1) by rw [HQS.out, HP.out, pairsTo_succ])
          have HO := Lib.hid hown
          have HB := Lib.hid hB
          clear hown hB
          go_wp2_with fail
          go_roundw
          case rel => exact ⟨i + 1, by go_num, by omega, A, c, qs, HN, rfl, HO.out, HB.out⟩
          case measure => simp [intOf]; omega
    · obtain rfl : i = 2 * n := by omega
      have HF := Lib.hid (show ps = pairs n from HP.out)
      have HO := Lib.hid hown
      have HB := Lib.hid hB
      clear hown hB hge hi
      go_wp2_with fail
      go_ret
      exact ⟨A, c, ret_slice' (by rw [HF.out]), by rw [← HF.out]; exact HO.out, HB.out⟩
namespace Gn
/-- The number of a pair in a row of them. -/
def pidx (ps : List (Nat × Nat)) (i j : Nat) : Nat := ps.findIdx fun p => decide (p.1 = i ∧ p.2 = j)
theorem pidx_lt {ps : List (Nat × Nat)} {i j : Nat} (h : (i, j) ∈ ps) : pidx ps i j < ps.length := List.findIdx_lt_length_of_exists ⟨(i, j), h, by simp⟩
theorem pidx_at {ps : List (Nat × Nat)} {i j : Nat} (h : (i, j) ∈ ps) : pfst ps (pidx ps i j) = i ∧ psnd ps (pidx ps i j) = j := by
  have hl := pidx_lt h
  have := List.findIdx_getElem (p := fun p : Nat × Nat => decide (p.1 = i ∧ p.2 = j)) (w := hl)
  unfold pfst psnd
  rw [List.getD_eq_getElem?_getD, List.getElem?_eq_getElem hl]
  exact of_decide_eq_true this
theorem pidx_ne {ps : List (Nat × Nat)} {i j k : Nat} (h : k < pidx ps i j) : ¬ (pfst ps k = i ∧ psnd ps k = j) := by
  have hl : k < ps.length := Nat.lt_of_lt_of_le h List.findIdx_le_length
  have := List.not_of_lt_findIdx h
  unfold pfst psnd
  rw [List.getD_eq_getElem?_getD, List.getElem?_eq_getElem hl]
  simpa using this
def plA (i j : Nat) : Nat := if fst2 i j = true then i else ac j
def plB (i j : Nat) : Nat := if fst2 i j = true then j else ac i
theorem pl_mem {n i j : Nat} (hi : i < 2 * n) (hj : j < 2 * n) (hij : i ≠ j) : (plA i j, plB i j) ∈ pairs n := by
  rw [pairs_mem]
  unfold plA plB
  by_cases h : fst2 i j = true
  · rw [if_pos h, if_pos h]
    refine ⟨hi, hj, ?_⟩
    unfold isP; rw [h]; simp [hij]
  · rw [if_neg h, if_neg h]
    refine ⟨ac_lt hj, ac_lt hi, ?_⟩
    have e1 : ac j ≠ ac i := fun e => hij (by rw [← ac_ac i, ← e, ac_ac])
    unfold isP fst2 at *
    rw [ac_ac, ac_ac]
    simp at h ⊢
    refine ⟨e1, ?_⟩
    omega
def numP (n i j : Int) : Int × Int := if 0 ≤ n ∧ n ≤ 64 ∧ 0 ≤ i ∧ i < 2 * n ∧ 0 ≤ j ∧ j < 2 * n ∧ i ≠ j then (((pidx (pairs n.toNat) (plA i.toNat j.toNat) (plB i.toNat j.toNat) : Nat) : Int), 0) else (0, 190)
theorem numP_ok {n i j : Nat} (hn : n ≤ 64) (hi : i < 2 * n) (hj : j < 2 * n) (hij : i ≠ j) : numP n i j = (((pidx (pairs n) (plA i j) (plB i j) : Nat) : Int), 0) := by
  unfold numP; rw [if_pos (by omega)]; rfl
theorem numP_bad {n i j : Int} (h : ¬ (0 ≤ n ∧ n ≤ 64 ∧ 0 ≤ i ∧ i < 2 * n ∧ 0 ≤ j ∧ j < 2 * n ∧ i ≠ j)) : numP n i j = (0, 190) := by unfold numP; rw [if_neg h]
def TellsNum (w : World) (x y : Int) (e : Ending) (w' : World) : Prop := e = .returned (.tuple #[.int .i64 x, .int .i64 y]) ∧ Below w.heap.size w w'
theorem tellsNum {w w' : World} {x y x' y' : Int} {e : Ending} (h : TellsNum w x y e w') (hx : x = x') (hy : y = y') : TellsNum w x' y' e w' := by subst hx hy; exact h
def cellsP (n : Int) : Int := if 0 ≤ n ∧ n ≤ 64 then 2 * n * n else 0
end Gn
theorem RdP.more {w : World} {B B' : Nat} {A : Option Addr} {ps : List (Nat × Nat)} (h : RdP w B A ps) (hB : B ≤ B') : RdP w B' A ps := fun hn => by
  obtain ⟨b, off, e, hlt, hc⟩ := h hn
  exact ⟨b, off, e, by omega, hc⟩
theorem RdP.below {w w' : World} {B : Nat} {A : Option Addr} {ps : List (Nat × Nat)} (h : RdP w B A ps) (hb : Below B w w') : RdP w' B A ps := fun hn => by
  obtain ⟨b, off, e, hlt, hc⟩ := h hn
  exact ⟨b, off, e, hlt, fun i hi => ⟨(hb.cell (p := ⟨b, off + i * 2, none⟩) hlt).trans (hc i hi).1, (hb.cell (p := ⟨b, off + i * 2 + 1, none⟩) hlt).trans (hc i hi).2⟩⟩
set_option maxRecDepth 100000 in
set_option maxHeartbeats 1000000 in
theorem slices_IndexPair (A : Option Addr) (c : Nat) (ps : List (Nat × Nat)) (i j : Nat) (w : World) (hr : RdP w w.heap.size A ps) (hm : ps.length ≤ 1000000) (hin : (i, j) ∈ ps) :
    Calls Try.prog 52 #[.slice A ps.length c, .agg #[.int .i64 i, .int .i64 j]] w fun e w' => e = .returned (.int .i64 (pidx ps i j : Nat)) ∧ Below w.heap.size w w' := by
  have hl := pidx_lt hin
  have HA := Lib.hid (pidx_at hin)
  have HN : Hid (∀ k, k < pidx ps i j → ¬ (pfst ps k = i ∧ psnd ps k = j)) := Lib.hid (fun k h => pidx_ne h)
  obtain ⟨q, hq⟩ : ∃ q, q = pidx ps i j := ⟨_, rfl⟩
  rw [← hq] at hl HA HN ⊢
  clear hq hin
  have hb0 : Below w.heap.size w (w.alloc (.cells #[.int .i64 i, .int .i64 j] 84)) := (Below.refl _ _).alloc (Nat.le_refl _) _
  have hBox := PrBox.new w 84 i j
  obtain ⟨W, hW⟩ : ∃ W, W = w.alloc (.cells #[.int .i64 i, .int .i64 j] 84) := ⟨_, rfl⟩
  rw [← hW] at hb0 hBox
  go_enter Try.func52, Try.ntmps52
  go_wp2_with fail
  rw [← hW]
  clear hW
  go_loopw [8] (fun s wr => ∃ k : Nat, s = .int .i64 k ∧ k ≤ q ∧ Below w.heap.size w wr ∧ PrBox wr w.heap.size i j) (fun s _ => q - (intOf s).toNat)
  case atStart => exact ⟨0, rfl, by omega, hb0, hBox⟩
  case round =>
    clear hb0 hBox
    obtain ⟨k, rfl, hk, hB, hX⟩ := hrel
    rename_i wr _
    obtain ⟨k0, k1, _⟩ := id hX
    obtain ⟨g, off, rfl, hg, hc⟩ := (hr.below hB) (by omega)
    obtain ⟨p0, p1⟩ := hc k (by omega)
    clear hc hr
    have a1 := After.cell k0
    have a2 := After.cell k1
    have q1 : (k : Int) < (ps.length : Int) := by omega
    have q3 : (0 : Int) ≤ (k : Int) := by omega
    have HB := Lib.hid hB
    have HX := Lib.hid hX
    clear hB hX
    rcases Nat.lt_or_ge k q with hlt | hge
    · have HE := HN.out k hlt
      by_cases h1 : pfst ps k = i
      · have h2 : ¬ ((j : Int) = (psnd ps k : Int)) := fun e => HE ⟨h1, by omega⟩
        rw [h1] at p0
        have a3 := After.cell p0
        have a4 := After.cell p1
        clear HE h1
        go_wp2_with fail
        refine wp_region_after (by kernel_rfl) (by kernel_rfl) ?_
        repeat (go_big_quiet_step (fail))
        refine wpQuiet_nil ?_
        intro w2 hb2
        have HB2 := Lib.hid (HB.out.trans (hb2.mono HB.out.size))
        have HX2 := Lib.hid (HX.out.go hb2)
        clear hb2 a1 a2 a3 a4
        go_wp2_with fail
        go_roundw
        case rel => exact ⟨k + 1, by go_num, by omega, HB2.out, HX2.out⟩
        case measure => simp [intOf]; omega
      · have h2 : ¬ ((i : Int) = (pfst ps k : Int)) := fun e => h1 (by omega)
        have a3 := After.cell p0
        have a4 := After.cell p1
        clear HE h1
        go_wp2_with fail
        refine wp_region_after (by kernel_rfl) (by kernel_rfl) ?_
        repeat (go_big_quiet_step (fail))
        refine wpQuiet_nil ?_
        intro w2 hb2
        have HB2 := Lib.hid (HB.out.trans (hb2.mono HB.out.size))
        have HX2 := Lib.hid (HX.out.go hb2)
        clear hb2 a1 a2 a3 a4
        go_wp2_with fail
        go_roundw
        case rel => exact ⟨k + 1, by go_num, by omega, HB2.out, HX2.out⟩
        case measure => simp [intOf]; omega
    · obtain rfl : k = q := by omega
      rw [HA.out.1] at p0
      rw [HA.out.2] at p1
      have a3 := After.cell p0
      have a4 := After.cell p1
      clear hge hk
      go_wp2_with fail
      refine wp_region_after (by kernel_rfl) (by kernel_rfl) ?_
      repeat (go_big_quiet_step (fail))
      refine wpQuiet_nil ?_
      intro w2 hb2
      have HB2 := Lib.hid (HB.out.trans (hb2.mono HB.out.size))
      clear hb2 a1 a2 a3 a4
      go_wp2_with fail
      go_ret
      exact ⟨rfl, HB2.out⟩
theorem cert_within (n : Nat) (i : Int) (b : Nat) (w : World) (hn : n ≤ 64) (hc : w.cell? ⟨b, 0, none⟩ = some (.int .i64 n)) :
    Calls Try.prog 49 #[.int .i64 i, .pointer (some ⟨b, 0, none⟩)] w fun e w' => e = .returned (.bool (decide (0 ≤ i ∧ i < 2 * n))) ∧ w = w' := by
  by_cases h0 : 0 ≤ i
  · by_cases h1 : i < 2 * (n : Int)
    · have q1 : decide (i < 2 * (n : Int)) = true := decide_eq_true h1
      go_enter Try.func49, Try.ntmps49
      go_wp2_with fail
      go_ret
      simp [h0, h1]
    · have q1 : decide (i < 2 * (n : Int)) = false := decide_eq_false h1
      go_enter Try.func49, Try.ntmps49
      go_wp2_with fail
      go_ret
      simp [h1]
  · go_enter Try.func49, Try.ntmps49
    go_wp2_with fail
    go_ret
    simp
    omega
theorem cert_Cells (n : Int) (w : World) : Calls Try.prog 26 #[.int .i64 n] w fun e w' => e = .returned (.int .i64 (cellsP n)) ∧ w = w' := by
  have cR := cert_right n w
  by_cases h : 0 ≤ n ∧ n ≤ 64
  · rw [decide_eq_true h] at cR
    have HC := Lib.hid (show cellsP n = 2 * n * n by unfold cellsP; rw [if_pos h])
    obtain ⟨h0, h1⟩ := h
    have h2 : 0 ≤ 2 * n * n ∧ 2 * n * n ≤ 128 * 64 := ⟨Int.mul_nonneg (by omega) h0, Int.mul_le_mul (by omega) h1 h0 (by omega)⟩
    obtain ⟨h3, h4⟩ := h2
    go_enter Try.func26, Try.ntmps26
    go_wp2_with ((with_reducible refine cR.mono ?_); clear cR; rintro e w' ⟨rfl, rfl⟩)
    go_ret
    rw [HC.out]
    exact ⟨rfl, rfl⟩
  · rw [decide_eq_false h] at cR
    have HC := Lib.hid (show cellsP n = 0 by unfold cellsP; rw [if_neg h])
    clear h
    go_enter Try.func26, Try.ntmps26
    go_wp2_with ((with_reducible refine cR.mono ?_); clear cR; rintro e w' ⟨rfl, rfl⟩)
    go_ret
    rw [HC.out]
    exact ⟨rfl, rfl⟩
theorem ref_CellsNum (n : Int) (w : World) : Calls Try.prog 32 #[.int .i64 n] w fun e w' => e = .returned (.int .i64 (cellsP n)) ∧ w = w' := by
  by_cases h0 : n < 0
  · have HC := Lib.hid (show cellsP n = 0 by unfold cellsP; rw [if_neg (by omega)])
    go_enter Try.func32, Try.ntmps32
    go_wp2_with fail
    go_ret
    rw [HC.out]
    exact ⟨rfl, rfl⟩
  · by_cases h1 : 64 < n
    · have HC := Lib.hid (show cellsP n = 0 by unfold cellsP; rw [if_neg (by omega)])
      have q0 : decide (n < 0) = false := decide_eq_false h0
      go_enter Try.func32, Try.ntmps32
      go_wp2_with fail
      go_ret
      rw [HC.out]
      exact ⟨rfl, rfl⟩
    · have HC := Lib.hid (show cellsP n = 2 * n * n by unfold cellsP; rw [if_pos (by omega)])
      have q0 : decide (n < 0) = false := decide_eq_false h0
      have q1 : decide (64 < n) = false := decide_eq_false h1
      have h2 : 0 ≤ 2 * n * n ∧ 2 * n * n ≤ 128 * 64 := ⟨Int.mul_nonneg (by omega) (by omega), Int.mul_le_mul (by omega) (by omega) (by omega) (by omega)⟩
      obtain ⟨h3, h4⟩ := h2
      go_enter Try.func32, Try.ntmps32
      go_wp2_with fail
      go_ret
      rw [HC.out]
      exact ⟨rfl, rfl⟩
set_option maxRecDepth 100000 in
set_option maxHeartbeats 1000000 in
theorem cert_Number_bad (n i j : Int) (w : World) (h : ¬ (0 ≤ n ∧ n ≤ 64 ∧ 0 ≤ i ∧ i < 2 * n ∧ 0 ≤ j ∧ j < 2 * n ∧ i ≠ j)) :
    Calls Try.prog 27 #[.int .i64 n, .int .i64 i, .int .i64 j] w (TellsNum w 0 190) := by
  have hb0 : Below w.heap.size w (w.alloc (.cells #[.int .i64 n] 3)) := (Below.refl _ _).alloc (Nat.le_refl _) _
  have hc0 : (w.alloc (.cells #[.int .i64 n] 3)).cell? ⟨w.heap.size, 0, none⟩ = some (.int .i64 n) := by simp [World.cell?_alloc_new]
  have cR := fun W => cert_right n W
  obtain ⟨W, hW⟩ : ∃ W, W = w.alloc (.cells #[.int .i64 n] 3) := ⟨_, rfl⟩
  rw [← hW] at hb0 hc0
  have HB := Lib.hid hb0
  clear hb0
  by_cases hn : 0 ≤ n ∧ n ≤ 64
  · rw [show decide (0 ≤ n ∧ n ≤ 64) = true from decide_eq_true hn] at cR
    obtain ⟨m, rfl⟩ : ∃ m : Nat, n = m := ⟨n.toNat, by omega⟩
    have cI := cert_within m i w.heap.size W (by omega) hc0
    have cJ := cert_within m j w.heap.size W (by omega) hc0
    by_cases hi : 0 ≤ i ∧ i < 2 * (m : Int)
    · rw [show decide (0 ≤ i ∧ i < 2 * (m : Int)) = true from decide_eq_true hi] at cI
      by_cases hj : 0 ≤ j ∧ j < 2 * (m : Int)
      · rw [show decide (0 ≤ j ∧ j < 2 * (m : Int)) = true from decide_eq_true hj] at cJ
        have he : (i == j) = true := beq_iff_eq.2 (by omega)
        clear h hn hi hj
        go_enter Try.func27, Try.ntmps27
        go_wp2_with fail
        rw [← hW]
        clear hW
        (with_reducible refine (cR _).mono ?_)
        rintro e w' ⟨rfl, rfl⟩
        go_wp2_with fail
        (with_reducible refine cI.mono ?_)
        rintro e w' ⟨rfl, rfl⟩
        go_wp2_with fail
        (with_reducible refine cJ.mono ?_)
        rintro e w' ⟨rfl, rfl⟩
        go_wp2_with fail
        go_ret2
        exact ⟨rfl, HB.out⟩
      · rw [show decide (0 ≤ j ∧ j < 2 * (m : Int)) = false from decide_eq_false hj] at cJ
        clear h hn hi hj
        go_enter Try.func27, Try.ntmps27
        go_wp2_with fail
        rw [← hW]
        clear hW
        (with_reducible refine (cR _).mono ?_)
        rintro e w' ⟨rfl, rfl⟩
        go_wp2_with fail
        (with_reducible refine cI.mono ?_)
        rintro e w' ⟨rfl, rfl⟩
        go_wp2_with fail
        (with_reducible refine cJ.mono ?_)
        rintro e w' ⟨rfl, rfl⟩
        go_wp2_with fail
        go_ret2
        exact ⟨rfl, HB.out⟩
    · rw [show decide (0 ≤ i ∧ i < 2 * (m : Int)) = false from decide_eq_false hi] at cI
      clear h hn hi cJ
      go_enter Try.func27, Try.ntmps27
      go_wp2_with fail
      rw [← hW]
      clear hW
      (with_reducible refine (cR _).mono ?_)
      rintro e w' ⟨rfl, rfl⟩
      go_wp2_with fail
      (with_reducible refine cI.mono ?_)
      rintro e w' ⟨rfl, rfl⟩
      go_wp2_with fail
      go_ret2
      exact ⟨rfl, HB.out⟩
  · rw [show decide (0 ≤ n ∧ n ≤ 64) = false from decide_eq_false hn] at cR
    clear h hn
    go_enter Try.func27, Try.ntmps27
    go_wp2_with fail
    rw [← hW]
    clear hW
    (with_reducible refine (cR _).mono ?_)
    rintro e w' ⟨rfl, rfl⟩
    go_wp2_with fail
    go_ret2
    exact ⟨rfl, HB.out⟩
theorem PrBox.set {w : World} {b : Nat} {i j : Int} (h : PrBox w b i j) (i' j' : Int) : PrBox ((w.setCell ⟨b, 0, none⟩ (.int .i64 i')).setCell ⟨b, 1, none⟩ (.int .i64 j')) b i' j' := by
  obtain ⟨c0, c1, fz⟩ := h
  refine ⟨?_, ?_, fun k => ?_⟩
  · simp [go_sem, c0, c1]
  · simp [go_sem, c0, c1]
  · simp [go_sem, fz]
set_option maxRecDepth 100000 in
set_option maxHeartbeats 1000000 in
theorem cert_Number_ok (n i j : Nat) (w : World) (hn : n ≤ 64) (hi : i < 2 * n) (hj : j < 2 * n) (hij : i ≠ j) :
    Calls Try.prog 27 #[.int .i64 n, .int .i64 i, .int .i64 j] w (TellsNum w (pidx (pairs n) (plA i j) (plB i j) : Nat) 0) := by
  have hin := pl_mem hi hj hij
  have hpl : (pairs n).length ≤ 1000000 := Nat.le_trans (pairs_len n) (Nat.le_trans (Nat.mul_le_mul (show 2 * n ≤ 128 by omega) (show 2 * n ≤ 128 by omega)) (by decide))
  have cX := fun A c W h => slices_IndexPair A c (pairs n) (plA i j) (plB i j) W h hpl hin
  have cPl := fun W => cert_places n W hn
  have hb0 : Below w.heap.size w (w.alloc (.cells #[.int .i64 n] 3)) := (Below.refl _ _).alloc (Nat.le_refl _) _
  have hc0 : (w.alloc (.cells #[.int .i64 n] 3)).cell? ⟨w.heap.size, 0, none⟩ = some (.int .i64 n) := by simp [World.cell?_alloc_new]
  have hs0 : (w.alloc (.cells #[.int .i64 n] 3)).heap.size = w.heap.size + 1 := by simp
  have cR := cert_right n
  rw [show decide (0 ≤ (n : Int) ∧ (n : Int) ≤ 64) = true from decide_eq_true (by omega)] at cR
  obtain ⟨W, hW⟩ : ∃ W, W = w.alloc (.cells #[.int .i64 n] 3) := ⟨_, rfl⟩
  rw [← hW] at hb0 hc0 hs0
  have cI := cert_within n i w.heap.size W (by omega) hc0
  have cJ := cert_within n j w.heap.size W (by omega) hc0
  rw [show decide (0 ≤ (i : Int) ∧ (i : Int) < 2 * (n : Int)) = true from decide_eq_true (by omega)] at cI
  rw [show decide (0 ≤ (j : Int) ∧ (j : Int) < 2 * (n : Int)) = true from decide_eq_true (by omega)] at cJ
  have he : ((i : Int) == (j : Int)) = false := beq_eq_false_iff_ne.2 (by omega)
  have cM := fun W => pair_mirror i j W (by omega) (by omega)
  have cB := fun W => pair_behind i j W (by omega) (by omega)
  have hb1 : Below W.heap.size W (W.alloc (.cells #[.int .i64 i, .int .i64 j] 84)) := (Below.refl _ _).alloc (Nat.le_refl _) _
  have hBox := PrBox.new W 84 i j
  obtain ⟨W1, hW1⟩ : ∃ W1, W1 = W.alloc (.cells #[.int .i64 i, .int .i64 j] 84) := ⟨_, rfl⟩
  rw [← hW1] at hb1 hBox
  have hc1 := below_cell hb1 hc0
  have HB := Lib.hid (hb0.trans (hb1.mono hb0.size))
  have hs1 : w.heap.size < W.heap.size := by omega
  have HXY : Hid ((fst2 i j = true → plA i j = i ∧ plB i j = j) ∧ (fst2 i j = false → plA i j = ac j ∧ plB i j = ac i)) := Lib.hid (by unfold plA plB; exact ⟨fun h => by rw [if_pos h, if_pos h]; exact ⟨rfl, rfl⟩, fun h => by rw [h]; exact ⟨rfl, rfl⟩⟩)
  obtain ⟨x, hx⟩ : ∃ x, x = plA i j := ⟨_, rfl⟩
  obtain ⟨y, hy⟩ : ∃ y, y = plB i j := ⟨_, rfl⟩
  obtain ⟨f, hf⟩ : ∃ f, f = fst2 i j := ⟨_, rfl⟩
  rw [← hx, ← hy] at HXY cX ⊢
  rw [← hf] at cB HXY
  clear hs0 hb0 hb1 hin hpl hij hx hy hf
  go_enter Try.func27, Try.ntmps27
  go_wp2_with fail
  rw [← hW]
  clear hW
  (with_reducible refine (cR _).mono ?_)
  rintro e w' ⟨rfl, rfl⟩
  clear cR
  go_wp2_with fail
  (with_reducible refine cI.mono ?_)
  rintro e w' ⟨rfl, rfl⟩
  clear cI
  go_wp2_with fail
  (with_reducible refine cJ.mono ?_)
  rintro e w' ⟨rfl, rfl⟩
  clear cJ hc0
  obtain ⟨k0, k1, kf⟩ := id hBox
  rw [hW1] at k0 k1
  go_wp2_with fail
  rw [← hW1]
  clear hW1 k0 k1 kf
  generalize W.heap.size = b1 at *
  (with_reducible refine (cB _).mono ?_)
  rintro e w2 ⟨rfl, hb2⟩
  clear cB
  have hc2 := below_cell hb2 hc1
  have hX2 := hBox.go hb2
  have HB2 := Lib.hid (HB.out.trans (hb2.mono HB.out.size))
  clear hb2 hc1 hBox HB
  rcases f with _ | _
  · obtain ⟨e1, e2⟩ := HXY.out.2 rfl
    subst e1 e2
    clear HXY
    obtain ⟨k0, k1, kf⟩ := id hX2
    go_wp2_with fail
    (with_reducible refine (cM _).mono ?_)
    rintro e w3 ⟨rfl, hb3⟩
    clear cM k0 k1 kf
    have hc3 := below_cell hb3 hc2
    have hX3 := hX2.go hb3
    have HB3 := Lib.hid (HB2.out.trans (hb3.mono HB2.out.size))
    obtain ⟨l0, l1, lf⟩ := id hX3
    clear hb3
    generalize ((ac i : Nat) : Int) = y at *
    generalize ((ac j : Nat) : Int) = x at *
    go_upto_region 7 with fail
    have hX4 := hX3.set x y
    have HB4 := Lib.hid ((HB3.out.setCell (p := ⟨b1, 0, none⟩) (Nat.le_of_lt hs1) (.int .i64 x)).setCell (p := ⟨b1, 1, none⟩) (Nat.le_of_lt hs1) (.int .i64 y))
    have hc4 : ((w3.setCell ⟨b1, 0, none⟩ (.int .i64 x)).setCell ⟨b1, 1, none⟩ (.int .i64 y)).cell? ⟨w.heap.size, 0, none⟩ = some (.int .i64 n) := by
      rw [World.cell?_setCell_far _ _ _ _ (by simp only; omega), World.cell?_setCell_far _ _ _ _ (by simp only; omega)]
      exact hc3
    generalize hw4 : ((w3.setCell ⟨b1, 0, none⟩ (.int .i64 x)).setCell ⟨b1, 1, none⟩ (.int .i64 y)) = w4 at *
    clear hw4 hX3 hc3 HB3 l0 l1 lf
    obtain ⟨l0, l1, lf⟩ := id hX4
    clear hX2 hc2 HB2
    go_wp2_with fail
    go_region_held3 (fun X => X.cell? ⟨w.heap.size, 0, none⟩ = some (.int .i64 n) ∧ X.cell? ⟨b1, 0, none⟩ = some (.int .i64 x) ∧ X.cell? ⟨b1, 1, none⟩ = some (.int .i64 y))
      (first | exact ⟨hc4, l0, l1⟩ | exact ⟨c0, c1, c2⟩ | exact ⟨d0, d1, d2⟩ | go_keep)
      (first | (go_at_call 39; (with_reducible refine (cPl _).mono ?_); rintro e w5 ⟨A, c, rfl, hown, hb5⟩; have hbb := (Below.refl w4.heap.size w4).drew.trans hb5; have c0 := below_cell hbb hc4; have c1 := below_cell hbb l0; have c2 := below_cell hbb l1) | (go_at_call 52; (with_reducible refine (cX _ _ _ (rdp_own hown)).mono ?_); rintro e w6 ⟨rfl, hb6⟩; have d0 := below_cell hb6 c0; have d1 := below_cell hb6 c1; have d2 := below_cell hb6 c2))
    go_wp2_with fail
    go_ret2
    exact ⟨rfl, (HB4.out.trans (hbb.mono HB4.out.size)).trans (hb6.mono (Nat.le_trans HB4.out.size hbb.size))⟩
  · obtain ⟨e1, e2⟩ := HXY.out.1 rfl
    subst e1 e2
    clear HXY
    obtain ⟨w4, hw4⟩ : ∃ w4, w4 = w2 := ⟨_, rfl⟩
    rw [← hw4] at hc2 hX2 HB2 ⊢
    have hc4 := hc2
    have HB4 := HB2
    obtain ⟨l0, l1, lf⟩ := id hX2
    clear hw4 cM
    generalize ((x : Nat) : Int) = x at *
    generalize ((y : Nat) : Int) = y at *
    clear hX2 hc2 HB2
    go_wp2_with fail
    go_region_held3 (fun X => X.cell? ⟨w.heap.size, 0, none⟩ = some (.int .i64 n) ∧ X.cell? ⟨b1, 0, none⟩ = some (.int .i64 x) ∧ X.cell? ⟨b1, 1, none⟩ = some (.int .i64 y))
      (first | exact ⟨hc4, l0, l1⟩ | exact ⟨c0, c1, c2⟩ | exact ⟨d0, d1, d2⟩ | go_keep)
      (first | (go_at_call 39; (with_reducible refine (cPl _).mono ?_); rintro e w5 ⟨A, c, rfl, hown, hb5⟩; have hbb := (Below.refl w4.heap.size w4).drew.trans hb5; have c0 := below_cell hbb hc4; have c1 := below_cell hbb l0; have c2 := below_cell hbb l1) | (go_at_call 52; (with_reducible refine (cX _ _ _ (rdp_own hown)).mono ?_); rintro e w6 ⟨rfl, hb6⟩; have d0 := below_cell hb6 c0; have d1 := below_cell hb6 c1; have d2 := below_cell hb6 c2))
    go_wp2_with fail
    go_ret2
    exact ⟨rfl, (HB4.out.trans (hbb.mono HB4.out.size)).trans (hb6.mono (Nat.le_trans HB4.out.size hbb.size))⟩
end Go.Proofs.Ytghpiofjejhegaa
