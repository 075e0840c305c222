/- Walks: Has, of the packages dbm and gnomonref12. -/
import Derived.Test.YtkgddgckilledaaHas
namespace Go.Proofs.Ytkgddgckilledaa
open Go.RowKit
set_option linter.unusedVariables false
set_option linter.unusedSimpArgs false
namespace Gn
/-- Does a point keep to a cell? -/
def okP (m : Nat) (M x : List Int) (i j : Nat) : Prop := cl m M i j = 9223372036854775807 ∨ apartV x i j ≤ cl m M i j
def hasM (m : Nat) (M x : List Int) : Prop := ∀ i, i < m → ∀ j, j < m → okP m M x i j
instance (m : Nat) (M x : List Int) (i j : Nat) : Decidable (okP m M x i j) := by unfold okP; infer_instance
instance (m : Nat) (M x : List Int) : Decidable (hasM m M x) := by unfold hasM; infer_instance
/-- Has an octagon a point? -/
def hasO (N : Int) (E : Bool) (M x : List Int) : Bool := decide (chk N E M = 0 ∧ E = false ∧ (x.length : Int) = N ∧ hasM (2 * N.toNat) M x)
theorem hasO_no {N : Int} {E : Bool} {M x : List Int} (h : ¬ (chk N E M = 0 ∧ E = false ∧ (x.length : Int) = N)) : hasO N E M x = false := decide_eq_false (fun k => h ⟨k.1, k.2.1, k.2.2.1⟩)
theorem hasO_eq {n : Nat} {M x : List Int} (h : chk n false M = 0) (hl : x.length = n) : hasO n false M x = decide (hasM (2 * n) M x) := by
  unfold hasO
  rw [Bool.eq_iff_iff, decide_eq_true_eq, decide_eq_true_eq]
  exact ⟨fun k => by simpa using k.2.2.2, fun k => ⟨h, rfl, by omega, by simpa using k⟩⟩
theorem apartV_mid {x : List Int} (h : ∀ v ∈ x, I64 v) {i j : Nat} (hi : i / 2 < x.length) (hj : j / 2 < x.length) : Mid (apartV x i j) := by
  have h1 := sideV_mid h hi
  have h2 := sideV_mid h hj
  unfold apartV Mid; omega
end Gn
open Gn
set_option maxHeartbeats 2000000 in
theorem dbm_Has (N : Int) (E : Bool) (A : Option Addr) (c : Nat) (M : List Int) (A' : Option Addr) (c' : Nat) (x : List Int) (w : World) (h : OctIn w w.heap.size A c N M)
    (hx : Rd w w.heap.size .i64 A' x.length (nth x)) (hxi : ∀ v ∈ x, I64 v) (hxm : (x.length : Int) ≤ 9223372036854775807) :
    Calls Try.prog 12 #[.agg #[.int .i64 N, .bool E, .slice A M.length c], .slice A' x.length c'] w fun e w' => e = .returned (.bool (hasO N E M x)) ∧ Below w.heap.size w w' := by
  obtain ⟨W, hW, h1, hB, hs⟩ := one_box w 24 N E (.slice A M.length c)
  have hW1 := h.go hB
  have hx1 := (hx.below hB).more hB.size
  have cC := dbm_Check A c N E M W hW1
  obtain ⟨k0, k1, k2⟩ := id h1
  go_enter Try.func12, Try.ntmps12
  go_wp2_with fail
  rw [← hW]
  clear hW
  refine cC.mono ?_
  clear cC
  rintro e w1 ⟨rfl, hb1⟩
  have hB1 := hB.trans (hb1.mono (by omega))
  have HB1 := Lib.hid hB1
  have hoct := hW1.go hb1
  have hO1 := h1.below hb1
  have hx2 := (hx1.below hb1).more hb1.size
  obtain ⟨m0, m1, m2⟩ := id hO1
  clear k0 k1 k2 hb1 hB1 hx1 hx hW1 h
  by_cases hc : chk N E M = 0
  · obtain ⟨n, rfl, hn, hE1, hE0⟩ := chk_zero hc
    have HC := Lib.hid hc
    rw [hc]
    clear hc
    rcases E with _ | _
    · by_cases hl : x.length = n
      · have hlb : ((x.length : Int) != n) = false := bne_eq_false_iff_eq.2 (by omega)
        have HE := Lib.hid (hasO_eq HC.out hl)
        obtain ⟨hMl, hok⟩ := hE0 rfl
        have HMl := Lib.hid (show M.length = (2 * n) * (2 * n) by rw [hMl, sq2])
        have hMq : M.length ≤ 16384 := by rw [hMl]; exact sq_le hn
        have HX := Lib.hid hl
        clear hE0 hE1 hMl hok hl
        go_wp2_with fail
        go_loopw [25] (fun s wr => ∃ i : Nat, s = .int .i64 i ∧ i ≤ 2 * n ∧ Hid (∀ i', i' < i → ∀ j, j < 2 * n → okP (2 * n) M x i' j) ∧ Below w1.heap.size w1 wr) (fun s _ => 2 * n - (intOf s).toNat)
        case atStart => exact ⟨0, rfl, by omega, Lib.hid (fun _ h => absurd h (by omega)), Below.refl _ _⟩
        case round =>
          rename_i wr _ _
          obtain ⟨i, rfl, hi, HK, hBr⟩ := hrel
          rcases Nat.lt_or_ge i (2 * n) with hlt | hge
          · obtain ⟨p0, p1, p2⟩ := hO1.below hBr
            have hltb : decide ((i : Int) < 2 * (n : Int)) = true := decide_eq_true (by omega)
            go_wp2
            clear p0 p1 p2 hltb
            go_loopw [31] (fun s wq => ∃ j : Nat, s = .int .i64 j ∧ j ≤ 2 * n ∧ Hid (∀ j', j' < j → okP (2 * n) M x i j') ∧ Below w1.heap.size w1 wq) (fun s _ => 2 * n - (intOf s).toNat)
            case atStart => exact ⟨0, rfl, by omega, Lib.hid (fun _ h => absurd h (by omega)), hBr⟩
            case round =>
              clear hBr
              rename_i wq _ _
              obtain ⟨j, rfl, hj, HKj, hBq⟩ := hrel
              rcases Nat.lt_or_ge j (2 * n) with hjt | hjge
              · obtain ⟨p0, p1, p2⟩ := hO1.below hBq
                have hqs := hBq.size
                have hp : i * (2 * n) + j < M.length := by rw [HMl.out]; exact idx_lt hlt hjt
                have hoq := hoct.go hBq
                obtain ⟨g, off, rfl, hg, hcell⟩ := hoq.rd (by omega)
                have hcv := hcell _ hp
                have hvi := hoct.i64 _ (nth_mem hp)
                have hxq := (hx2.below hBq).more hBq.size
                have cA := fun W => cell_at i j n W (by omega) (by omega) (by omega)
                obtain ⟨v, hv⟩ : ∃ v, v = nth M (i * (2 * n) + j) := ⟨_, rfl⟩
                have hi2 : i / 2 < x.length := by rw [HX.out]; omega
                have hj2 : j / 2 < x.length := by rw [HX.out]; omega
                have hmid := apartV_mid hxi hi2 hj2
                have HP := Lib.hid (show okP (2 * n) M x i j ↔ (v = 9223372036854775807 ∨ apartV x i j ≤ v) by unfold okP cl; rw [← hv])
                have cP := fun (W : World) (h : Rd W W.heap.size .i64 A' x.length (nth x)) => dbm_apart A' c' x i j W h hxi hi2 hj2 hxm (by omega) (by omega)
                have cO := fun W => dbm_of v W (by rw [hv]; exact hvi)
                have cC := fun W => wide_compare (apartV x i j) v W hmid (by rw [hv]; exact hvi.mid)
                rw [← hv] at hcv
                have HQ := Lib.hid (cmpI_pos (a := apartV x i j) (b := v))
                clear hcell hoq hv hvi hmid hi2 hj2
                generalize cmpI (apartV x i j) v = cm at *
                generalize hiW (apartV x i j) = ah at *
                generalize loW (apartV x i j) = al at *
                generalize hiW v = vh at *
                generalize loW v = vl at *
                generalize apartV x i j = ap at *
                generalize i * (2 * n) + j = p at *
                go_wp2_with fail
                have a0 := After.cell p0
                have a2 := After.cell p2
                have a3 := After.cell hcv
                have q1 : (p : Int) < (M.length : Int) := by omega
                have q2 : (0 : Int) ≤ (p : Int) := by omega
                refine wp_region_after (by kernel_rfl) (by kernel_rfl) ?_
                repeat (go_big_quiet_step ((go_at_call 36; with_reducible exact after_of (cA _))))
                refine wpQuiet_nil ?_
                intro w3 hb3
                have hB3 := hBq.trans (hb3.mono hqs)
                have hx3 := (hxq.below hb3).more hb3.size
                clear a0 a2 a3 p0 p1 p2 hcv cA q1 q2 hBq hxq hb3
                by_cases hinf : v = 9223372036854775807
                · have hb : (v != 9223372036854775807) = false := bne_eq_false_iff_eq.2 hinf
                  have HF := Lib.hid (HP.out.2 (.inl hinf))
                  clear hinf
                  go_wp2_with fail
                  go_roundw
                  case rel => exact ⟨j + 1, by go_num, by omega, Lib.hid (fun j' h' => by
                    rcases Nat.lt_or_ge j' j with h | h
                    · exact HKj.out j' h
                    · obtain rfl : j' = j := by omega
                      exact HF.out), hB3⟩
                  case measure => simp [intOf]; omega
                · have hb : (v != 9223372036854775807) = true := bne_iff_ne.2 hinf
                  have HI := Lib.hid hinf
                  clear hinf
                  go_wp2_with fail
                  refine (cP _ hx3).mono ?_
                  clear cP
                  rintro e w4 ⟨rfl, hb4⟩
                  have hB4 := hB3.trans (hb4.mono hB3.size)
                  clear hb4 hB3
                  go_wp2_with fail
                  refine (cO _).mono ?_
                  clear cO
                  rintro e w5 ⟨rfl, hb5⟩
                  have hB5 := hB4.trans (hb5.mono hB4.size)
                  clear hb5 hB4
                  go_wp2_with fail
                  refine (cC _).mono ?_
                  clear cC
                  rintro e w6 ⟨rfl, hb6⟩
                  have hB6 := hB5.trans (hb6.mono hB5.size)
                  clear hb6 hB5
                  by_cases hcm : 0 < cm
                  · have HF := Lib.hid (show ¬ okP (2 * n) M x i j from fun h => by
                      rcases HP.out.1 h with h | h
                      · exact HI.out h
                      · have := HQ.out.1 hcm; omega)
                    have HB6 := Lib.hid (HB1.out.trans (hB6.mono HB1.out.size))
                    go_wp2_with fail
                    go_ret
                    rw [HE.out, decide_eq_false (fun h => HF.out (h i hlt j hjt))]
                    exact ⟨rfl, HB6.out⟩
                  · have HF := Lib.hid (HP.out.2 (.inr (by have := mt HQ.out.2 hcm; omega)))
                    have hcm' : decide (0 < cm) = false := decide_eq_false hcm
                    clear hcm HQ HP
                    go_wp2_with fail
                    go_roundw
                    case rel => exact ⟨j + 1, by go_num, by omega, Lib.hid (fun j' h' => by
                      rcases Nat.lt_or_ge j' j with h | h
                      · exact HKj.out j' h
                      · obtain rfl : j' = j := by omega
                        exact HF.out), hB6⟩
                    case measure => simp [intOf]; omega
              · obtain rfl : j = 2 * n := by omega
                go_wp2_with fail
                go_roundw
                case rel => exact ⟨i + 1, by go_num, by omega, Lib.hid (fun i' h' => by
                  rcases Nat.lt_or_ge i' i with h | h
                  · exact HK.out i' h
                  · obtain rfl : i' = i := by omega
                    exact HKj.out), hBq⟩
                case measure => simp [intOf]; omega
          · obtain rfl : i = 2 * n := by omega
            have HBr := Lib.hid (HB1.out.trans (hBr.mono HB1.out.size))
            go_wp2_with fail
            go_ret
            rw [HE.out, decide_eq_true (show hasM (2 * n) M x from HK.out)]
            exact ⟨rfl, HBr.out⟩
      · have hlb : ((x.length : Int) != n) = true := bne_iff_ne.2 (by omega)
        have HE := Lib.hid (hasO_no (E := false) (M := M) (x := x) (N := n) (fun h => hl (by have := h.2.2; omega)))
        clear hl hE0 hE1
        go_wp2_with fail
        go_ret
        rw [HE.out]
        exact ⟨rfl, HB1.out⟩
    · have HE := Lib.hid (hasO_no (E := true) (M := M) (x := x) (N := n) (fun h => by cases h.2.1))
      clear hE0 hE1
      go_wp2_with fail
      go_ret
      rw [HE.out]
      exact ⟨rfl, HB1.out⟩
  · have HG := Lib.hid (hasO_no (E := E) (M := M) (x := x) (N := N) (fun h => hc h.1))
    have hc' : (chk N E M != 0) = true := bne_iff_ne.2 hc
    clear hc
    generalize chk N E M = cc at *
    go_wp2_with fail
    go_ret
    rw [HG.out]
    exact ⟨rfl, HB1.out⟩
end Go.Proofs.Ytkgddgckilledaa
