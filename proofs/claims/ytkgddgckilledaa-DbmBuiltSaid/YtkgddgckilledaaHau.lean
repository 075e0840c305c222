/- The walk of Has, of the package gnomonref12. -/
import Derived.Test.YtkgddgckilledaaHat
namespace Go.Proofs.Ytkgddgckilledaa
open Go.RowKit
set_option linter.unusedVariables false
set_option linter.unusedSimpArgs false
open Gn
set_option maxHeartbeats 2000000 in
theorem ref_Has (N : Int) (E : Bool) (A : Option Addr) (c : Nat) (M : List Int) (A' : Option Addr) (c' : Nat) (x : List Int) (w : World) (h : OctIn w w.heap.size A c N M)
    (hx : Rd w w.heap.size .i64 A' x.length (nth x)) (hxi : ∀ v ∈ x, I64 v) (hxm : (x.length : Int) ≤ 9223372036854775807) :
    Calls Try.prog 13 #[.agg #[.int .i64 N, .bool E, .slice A M.length c], .slice A' x.length c'] w fun e w' => e = .returned (.bool (hasO N E M x)) ∧ Below w.heap.size w w' := by
  obtain ⟨W, hW, h1, hB, hs⟩ := one_box w 24 N E (.slice A M.length c)
  have hW1 := h.go hB
  have hx1 := (hx.below hB).more hB.size
  have cC := ref_Check A c N E M W hW1
  obtain ⟨k0, k1, k2⟩ := id h1
  go_enter Try.func13, Try.ntmps13
  go_wp2_with fail
  rw [← hW]
  clear hW
  refine cC.mono ?_
  clear cC
  rintro e w1 ⟨rfl, hb1⟩
  have hB1 := hB.trans (hb1.mono (by omega))
  have HB1 := Lib.hid hB1
  have hoct := hW1.go hb1
  have hO1 := h1.below hb1
  have hx2 := (hx1.below hb1).more hb1.size
  obtain ⟨m0, m1, m2⟩ := id hO1
  clear k0 k1 k2 hb1 hB1 hx1 hx hW1 h
  by_cases hc : chk N E M = 0
  · obtain ⟨n, rfl, hn, hE1, hE0⟩ := chk_zero hc
    have HC := Lib.hid hc
    rw [hc]
    clear hc
    rcases E with _ | _
    · by_cases hl : x.length = n
      · have hlb : ((x.length : Int) != n) = false := bne_eq_false_iff_eq.2 (by omega)
        have HE := Lib.hid (hasO_eq HC.out hl)
        obtain ⟨hMl, hok⟩ := hE0 rfl
        have HMl := Lib.hid (show M.length = (2 * n) * (2 * n) by rw [hMl, sq2])
        have hMq : M.length ≤ 16384 := by rw [hMl]; exact sq_le hn
        have HX := Lib.hid hl
        have HOK := Lib.hid hok
        clear hE0 hE1 hMl hok hl
        go_wp2_with fail
        go_loopw [6] (fun s wr => ∃ i : Nat, s = .int .i64 i ∧ i ≤ 2 * n ∧ Hid (∀ i', i' < i → ∀ j, j < 2 * n → okP (2 * n) M x i' j) ∧ Below w1.heap.size w1 wr) (fun s _ => 2 * n - (intOf s).toNat)
        case atStart => exact ⟨0, rfl, by omega, Lib.hid (fun _ h => absurd h (by omega)), Below.refl _ _⟩
        case round =>
          rename_i wr _ _
          obtain ⟨i, rfl, hi, HK, hBr⟩ := hrel
          rcases Nat.lt_or_ge i (2 * n) with hlt | hge
          · obtain ⟨p0, p1, p2⟩ := hO1.below hBr
            have hltb : decide ((i : Int) < 2 * (n : Int)) = true := decide_eq_true (by omega)
            go_wp2
            clear p0 p1 p2 hltb
            go_loopw [7] (fun s wq => ∃ j : Nat, s = .int .i64 j ∧ j ≤ 2 * n ∧ Hid (∀ j', j' < j → okP (2 * n) M x i j') ∧ Below w1.heap.size w1 wq) (fun s _ => 2 * n - (intOf s).toNat)
            case atStart => exact ⟨0, rfl, by omega, Lib.hid (fun _ h => absurd h (by omega)), hBr⟩
            case round =>
              clear hBr
              rename_i wq _ _
              obtain ⟨j, rfl, hj, HKj, hBq⟩ := hrel
              rcases Nat.lt_or_ge j (2 * n) with hjt | hjge
              · obtain ⟨p0, p1, p2⟩ := hO1.below hBq
                have hqs := hBq.size
                have hp : i * (2 * n) + j < M.length := by rw [HMl.out]; exact idx_lt hlt hjt
                have hoq := hoct.go hBq
                obtain ⟨g, off, rfl, hg, hcell⟩ := hoq.rd (by omega)
                have hcv := hcell _ hp
                have hvb := (isB_iff _).1 (HOK.out i hlt j hjt).1
                have hv0 : i = j → nth M (i * (2 * n) + j) = 0 := (HOK.out i hlt j hjt).2.1
                have hxq := (hx2.below hBq).more hBq.size
                obtain ⟨v, hv⟩ : ∃ v, v = nth M (i * (2 * n) + j) := ⟨_, rfl⟩
                have hi2 : i / 2 < x.length := by rw [HX.out]; omega
                have hj2 : j / 2 < x.length := by rw [HX.out]; omega
                have HP := Lib.hid (show okP (2 * n) M x i j ↔ (v = 9223372036854775807 ∨ apartV x i j ≤ v) by unfold okP cl; rw [← hv])
                have cP := ref_Diff A' c' x i j _ hxq hxi hi2 hj2 hxm (by omega) (by omega)
                have hself : i = j → apartV x i j = 0 := fun h => by subst h; unfold apartV; omega
                rw [← hv] at hcv
                have hvb : Bd v := by rw [hv]; exact hvb
                have hv0 : i = j → v = 0 := fun h => by rw [hv]; exact hv0 h
                have e1 : (i : Int) * (2 * (n : Int)) = ((i * (2 * n) : Nat) : Int) := by push_cast; rfl
                have HVB := Lib.hid hvb
                have HV0 := Lib.hid hv0
                have HSE := Lib.hid hself
                have HD := Lib.hid (show diffV (apartV x i j) = diffV (apartV x i j) ∧ diffF (apartV x i j) = diffF (apartV x i j) from ⟨rfl, rfl⟩)
                have hdf : (diffF (apartV x i j) = 1 ∧ 4611686018427387904 < apartV x i j) ∨ (diffF (apartV x i j) = -1 ∧ apartV x i j < -4611686018427387904) ∨ (diffF (apartV x i j) = 0 ∧ diffV (apartV x i j) = apartV x i j ∧ ¬ 4611686018427387904 < apartV x i j ∧ ¬ apartV x i j < -4611686018427387904) := by
                  unfold diffF diffV
                  by_cases h1 : 4611686018427387904 < apartV x i j
                  · left; rw [if_pos h1]; exact ⟨rfl, h1⟩
                  · by_cases h2 : apartV x i j < -4611686018427387904
                    · right; left; rw [if_neg h1, if_pos h2]; exact ⟨rfl, h2⟩
                    · right; right; rw [if_neg h1, if_neg h2, if_neg h1, if_neg h2]; exact ⟨rfl, rfl, h1, h2⟩
                have HDF := Lib.hid hdf
                clear hcell hoq hv hi2 hj2 hvb hv0 hself hdf HD
                obtain ⟨dv, hdv⟩ : ∃ d, d = diffV (apartV x i j) := ⟨_, rfl⟩
                obtain ⟨df, hdf⟩ : ∃ d, d = diffF (apartV x i j) := ⟨_, rfl⟩
                rw [← hdv, ← hdf] at HDF cP
                clear hdv hdf
                generalize apartV x i j = ap at *
                have b1 : i * (2 * n) + j < 16384 := by omega
                generalize i * (2 * n) = p at *
                by_cases hskip : v = 9223372036854775807 ∨ i = j
                · have HF := Lib.hid (HP.out.2 (by
                    rcases hskip with h | h
                    · exact .inl h
                    · right; rw [HSE.out h, HV0.out h]; omega))
                  have HB := Lib.hid hBq
                  clear hBq cP
                  by_cases hinf : v = 9223372036854775807
                  · have hb : (v == 9223372036854775807) = true := beq_iff_eq.2 hinf
                    clear hinf hskip
                    go_wp2_with fail
                    go_roundw
                    case rel => exact ⟨j + 1, by go_num, by omega, Lib.hid (fun j' h' => by
                      rcases Nat.lt_or_ge j' j with h | h
                      · exact HKj.out j' h
                      · obtain rfl : j' = j := by omega
                        exact HF.out), HB.out⟩
                    case measure => simp [intOf]; omega
                  · have hb : (v == 9223372036854775807) = false := beq_eq_false_iff_ne.2 hinf
                    have hb2 : (((i : Nat) : Int) == j) = true := beq_iff_eq.2 (by rcases hskip with h | h; exact absurd h hinf; omega)
                    clear hinf hskip
                    go_wp2_with fail
                    go_roundw
                    case rel => exact ⟨j + 1, by go_num, by omega, Lib.hid (fun j' h' => by
                      rcases Nat.lt_or_ge j' j with h | h
                      · exact HKj.out j' h
                      · obtain rfl : j' = j := by omega
                        exact HF.out), HB.out⟩
                    case measure => simp [intOf]; omega
                · have hb : (v == 9223372036854775807) = false := beq_eq_false_iff_ne.2 (fun h => hskip (.inl h))
                  have hb2 : (((i : Nat) : Int) == j) = false := beq_eq_false_iff_ne.2 (fun h => hskip (.inr (by omega)))
                  have HI := Lib.hid (show v ≠ 9223372036854775807 from fun h => hskip (.inl h))
                  clear hskip
                  go_wp2_with fail
                  refine cP.mono ?_
                  clear cP
                  rintro e w4 ⟨rfl, hb4⟩
                  have hB4 := hBq.trans (hb4.mono hBq.size)
                  clear hb4 hBq p0 p1 p2 hcv
                  have hways : (0 < df ∧ ¬ okP (2 * n) M x i j) ∨ (¬ 0 < df ∧ (df == 0) = false ∧ okP (2 * n) M x i j) ∨ (¬ 0 < df ∧ (df == 0) = true ∧ v < dv ∧ ¬ okP (2 * n) M x i j) ∨ (¬ 0 < df ∧ (df == 0) = true ∧ ¬ v < dv ∧ okP (2 * n) M x i j) := by
                    have hvb := HVB.out
                    have hi := HI.out
                    rw [HP.out]
                    unfold Bd at hvb
                    simp only [beq_iff_eq, beq_eq_false_iff_ne]
                    rcases HDF.out with ⟨h1, h2⟩ | ⟨h1, h2⟩ | ⟨h1, h2, h3, h4⟩
                    · left; omega
                    · right; left; omega
                    · by_cases h5 : v < dv
                      · right; right; left; omega
                      · right; right; right; omega
                  rcases hways with ⟨d1, d2⟩ | ⟨d1, d2, d3⟩ | ⟨d1, d2, d3, d4⟩ | ⟨d1, d2, d3, d4⟩
                  · have HF := Lib.hid d2
                    have HB6 := Lib.hid (HB1.out.trans (hB4.mono HB1.out.size))
                    clear d2
                    go_wp2_with fail
                    go_ret
                    rw [HE.out, decide_eq_false (fun h => HF.out (h i hlt j hjt))]
                    exact ⟨rfl, HB6.out⟩
                  · have HF := Lib.hid d3
                    have HB := Lib.hid hB4
                    have d1' : decide (0 < df) = false := decide_eq_false d1
                    clear d3 d1 hB4
                    go_wp2_with fail
                    go_roundw
                    case rel => exact ⟨j + 1, by go_num, by omega, Lib.hid (fun j' h' => by
                      rcases Nat.lt_or_ge j' j with h | h
                      · exact HKj.out j' h
                      · obtain rfl : j' = j := by omega
                        exact HF.out), HB.out⟩
                    case measure => simp [intOf]; omega
                  · have HF := Lib.hid d4
                    have HB6 := Lib.hid (HB1.out.trans (hB4.mono HB1.out.size))
                    have d1' : decide (0 < df) = false := decide_eq_false d1
                    clear d4 d1
                    go_wp2_with fail
                    go_ret
                    rw [HE.out, decide_eq_false (fun h => HF.out (h i hlt j hjt))]
                    exact ⟨rfl, HB6.out⟩
                  · have HF := Lib.hid d4
                    have HB := Lib.hid hB4
                    have d1' : decide (0 < df) = false := decide_eq_false d1
                    have d3' : decide (v < dv) = false := decide_eq_false d3
                    clear d4 d1 d3 hB4
                    go_wp2_with fail
                    go_roundw
                    case rel => exact ⟨j + 1, by go_num, by omega, Lib.hid (fun j' h' => by
                      rcases Nat.lt_or_ge j' j with h | h
                      · exact HKj.out j' h
                      · obtain rfl : j' = j := by omega
                        exact HF.out), HB.out⟩
                    case measure => simp [intOf]; omega
              · obtain rfl : j = 2 * n := by omega
                go_wp2_with fail
                go_roundw
                case rel => exact ⟨i + 1, by go_num, by omega, Lib.hid (fun i' h' => by
                  rcases Nat.lt_or_ge i' i with h | h
                  · exact HK.out i' h
                  · obtain rfl : i' = i := by omega
                    exact HKj.out), hBq⟩
                case measure => simp [intOf]; omega
          · obtain rfl : i = 2 * n := by omega
            have HBr := Lib.hid (HB1.out.trans (hBr.mono HB1.out.size))
            go_wp2_with fail
            go_ret
            rw [HE.out, decide_eq_true (show hasM (2 * n) M x from HK.out)]
            exact ⟨rfl, HBr.out⟩
      · have hlb : ((x.length : Int) != n) = true := bne_iff_ne.2 (by omega)
        have HE := Lib.hid (hasO_no (E := false) (M := M) (x := x) (N := n) (fun h => hl (by have := h.2.2; omega)))
        clear hl hE0 hE1
        go_wp2_with fail
        go_ret
        rw [HE.out]
        exact ⟨rfl, HB1.out⟩
    · have HE := Lib.hid (hasO_no (E := true) (M := M) (x := x) (N := n) (fun h => by cases h.2.1))
      clear hE0 hE1
      go_wp2_with fail
      go_ret
      rw [HE.out]
      exact ⟨rfl, HB1.out⟩
  · have HG := Lib.hid (hasO_no (E := E) (M := M) (x := x) (N := N) (fun h => hc h.1))
    have hc' : (chk N E M != 0) = true := bne_iff_ne.2 hc
    clear hc
    generalize chk N E M = cc at *
    go_wp2_with fail
    go_ret
    rw [HG.out]
    exact ⟨rfl, HB1.out⟩
end Go.Proofs.Ytkgddgckilledaa
