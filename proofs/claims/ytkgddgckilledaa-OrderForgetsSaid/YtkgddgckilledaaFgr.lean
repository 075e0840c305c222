/- gnomonref14: Drop, Forget, Keep. -/
import Derived.Test.YtkgddgckilledaaFkp
import Derived.Test.YtkgddgckilledaaRof
namespace Go.Proofs.Ytkgddgckilledaa
open Go.RowKit
set_option linter.unusedVariables false
set_option linter.unusedSimpArgs false
open Gn
/-- A row of bools. -/
def BR (w : World) (g n : Nat) (f : Nat → Bool) : Prop := w.rowIs g 4 n (fun i => .bool (f i))
theorem BR.cell {w : World} {g n : Nat} {f : Nat → Bool} (h : BR w g n f) {i : Nat} (hi : i < n) : w.cell? ⟨g, i, none⟩ = some (.bool (f i)) := World.rowIs.cell h hi
theorem BR.fz {w : World} {g n : Nat} {f : Nat → Bool} (h : BR w g n f) (i : Nat) : w.frozen? ⟨g, i, none⟩ = false := World.rowIs.frozen h i
theorem BR.below {w w' : World} {g n : Nat} {f : Nat → Bool} (h : BR w g n f) (hb : Below w.heap.size w w') : BR w' g n f := World.rowIs.of_block h (hb.block _ (World.rowIs.lt h))
theorem BR.other {w : World} {g n : Nat} {f : Nat → Bool} (h : BR w g n f) {a : Addr} (ha : g ≠ a.block) (v : Value) : BR (w.setCell a v) g n f := World.rowIs.setOther h ha v
theorem BR.put {w : World} {g n : Nat} {f : Nat → Bool} (h : BR w g n f) (i : Nat) (u : Bool) : BR (w.setCell ⟨g, i, none⟩ (.bool u)) g n (fun k => if k = i then u else f k) :=
  (World.rowIs.set h i (.bool u)).congr fun k _ => by dsimp only; split <;> rfl
theorem BR.congr {w : World} {g n : Nat} {f f' : Nat → Bool} (h : BR w g n f) (hf : ∀ i, i < n → f i = f' i) : BR w g n f' := World.rowIs.congr h fun i hi => by rw [hf i hi]
theorem BR.lt {w : World} {g n : Nat} {f : Nat → Bool} (h : BR w g n f) : g < w.heap.size := World.rowIs.lt h
theorem make_bools (q : Nat) (h : q ≤ 64) (w : World) :
    (Instr.makeSlice 92 (.int .i64 (q : Int)) (.int .i64 (q : Int))).run Try.prog w = .ok (.slice (some ⟨w.heap.size, 0, none⟩) q q) (w.alloc (.cells (madeCells #[.bool false] q) /-T-/4)) :=
  run_make_row' (P := Try.prog) /-T-/92 /-T-/4 (.bool false) 1 (by kernel_rfl) (by kernel_rfl) rfl .i64 .i64 q (by omega) (by omega) w
theorem BR.made (w : World) (q : Nat) : BR (w.alloc (.cells (madeCells #[.bool false] q) /-T-/4)) w.heap.size q (fun _ => false) := World.rowIs_made w (.bool false) q _
theorem half_nat (i : Nat) : (i : Int).tdiv 2 = ((i / 2 : Nat) : Int) := by rw [Int.tdiv_eq_ediv_of_nonneg (by omega)]; omega
set_option maxRecDepth 100000 in
set_option maxHeartbeats 16000000 in
theorem ref14_Drop (n : Nat) (E : Bool) (A : Option Addr) (c : Nat) (M : List Int) (hc : chk n E M = 0) (gD cD : Nat) (f : Nat → Bool) (w : World) (base : Nat) (hbs : base ≤ w.heap.size) (ho : Ow w base 2 .i64 A c M) (hD : BR w gD n f) (hne : ∀ g, A = some ⟨g, 0, none⟩ → gD ≠ g) (P : Int × Bool × List Int) (hP : P = dropO (n, E, M) f) :
    Calls Try.prog 58 #[.agg #[.int .i64 n, .bool E, .slice A M.length c], .slice (some ⟨gD, 0, none⟩) n cD] w (TellsB base w A c P) := by
  obtain ⟨m, hm, hn, h1, h0⟩ := chk_zero hc
  obtain rfl : n = m := by omega
  rcases E with _ | _
  · have hl : M.length = (2 * n) * (2 * n) := by rw [(h0 rfl).1, sq2]
    have hP2 : P = ((n : Int), false, rI (2 * n) f (2 * n) M) := by rw [hP, rI_drop hl]; unfold dropO; rw [if_neg (by simp)]; simp
    obtain ⟨W, hW, hR, hs⟩ := box_res w 24 n false (.slice A M.length c)
    obtain ⟨k0, k1, k2, r0, r1, r2, fc, fr, hB, hlt⟩ := id hR
    have hq : M.length ≤ 16384 := by rw [hl, sq2]; exact sq_le hn
    have hF : Fg w base n M.length c A M W := ⟨⟨k0, k1, k2⟩, ⟨⟨r0, r1, r2⟩, fr⟩, ho.below hB, rfl, hB.mono hbs, hbs, fun g' hg' => by subst hg'; exact ho.blockGe.2⟩
    have hDW := hD.below hB
    have HP := Lib.hid hP2
    have HLen := Lib.hid hl
    have HNe := Lib.hid hne
    clear hP hP2 h1 h0 hc hm hl ho hD hB fc hR hne
    go_enter Try.func58, Try.ntmps58
    go_wp2_with fail
    rw [← hW]
    clear hW k0 k1 k2 r0 r1 r2 fr hlt hs
    have HMl := Lib.hid (show M.length = M.length from rfl)
    generalize hq0 : M.length = q at *
    clear HMl
    have HQ := Lib.hid hq0
    clear hq0
    go_loopw [6] (fun s' wr => ∃ i : Nat, s' = .int .i64 i ∧ i ≤ 2 * n ∧ ∃ X : List Int, Hid (X = rI (2 * n) f i M) ∧ Fg w base n q c A X wr ∧ BR wr gD n f) (fun s _ => 2 * n - (Go.RowKit.intOf s).toNat)
    case atStart => exact ⟨0, rfl, by omega, M, Lib.hid rfl, hF, hDW⟩
    case round =>
      obtain ⟨i, rfl, hi, X, HX, hS, hBR⟩ := hrel
      clear hF hDW
      obtain ⟨k0, k1, k2⟩ := id hS.out
      rcases Nat.lt_or_ge i (2 * n) with hit | hige
      · have di : decide ((i : Int) < 2 * (n : Int)) = true := decide_eq_true (by omega)
        go_wp2_with fail
        go_loopw [7] (fun s' wr => ∃ j : Nat, s' = .int .i64 j ∧ j ≤ 2 * n ∧ ∃ Y : List Int, Hid (Y = rJ (2 * n) f i j X) ∧ Fg w base n q c A Y wr ∧ BR wr gD n f) (fun s _ => 2 * n - (Go.RowKit.intOf s).toNat)
        case atStart => exact ⟨0, rfl, by omega, X, Lib.hid rfl, hS, hBR⟩
        case round =>
          clear hS hBR k0 k1 k2
          obtain ⟨j, rfl, hj, Y, HY, hS, hBR⟩ := hrel
          obtain ⟨k0, k1, k2⟩ := id hS.out
          rcases Nat.lt_or_ge j (2 * n) with hjt | hjge
          · have dj : decide ((j : Int) < 2 * (n : Int)) = true := decide_eq_true (by omega)
            have c1 := hBR.cell (i := i / 2) (by omega)
            have c2 := hBR.cell (i := j / 2) (by omega)
            have hqi := half_nat i
            have hqj := half_nat j
            have hi2 : i / 2 < n := by omega
            have hj2 : j / 2 < n := by omega
            have hst : rJ (2 * n) f i (j + 1) X = if i ≠ j ∧ (f (i / 2) || f (j / 2)) = true then Y.set (i * (2 * n) + j) 9223372036854775807 else Y := by rw [HY.out]; rfl
            have hpp : i * (2 * n) + j < q := by rw [HLen.out]; exact idx_lt hit hjt
            obtain ⟨g', rfl, hg1, hg2⟩ := hS.row.blockOf (by rw [hS.len]; omega)
            have ei : (i : Int) * (2 * (n : Int)) = ((i * (2 * n) : Nat) : Int) := by push_cast; rfl
            have kk := hS.row.cellAt (i := i * (2 * n) + j) (by rw [hS.len]; exact hpp)
            have kf := hS.row.frozenAt (i * (2 * n) + j)
            have HP1 := Lib.hid (hS.set (i * (2 * n) + j) 9223372036854775807)
            have HB1 := Lib.hid (hBR.other (a := ⟨g', i * (2 * n) + j, none⟩) (HNe.out g' rfl) (.int .i64 9223372036854775807))
            have HS0 := Lib.hid hS
            have HB0 := Lib.hid hBR
            generalize i * (2 * n) = pi at *
            have q1 : (pi : Int) + (j : Int) < (q : Int) := by omega
            generalize nth Y (pi + j) = y at *
            generalize f (i / 2) = z1 at *
            generalize f (j / 2) = z2 at *
            generalize i / 2 = ih at *
            generalize j / 2 = jh at *
            have hihi : (ih : Int) < (n : Int) := by omega
            have hjhi : (jh : Int) < (n : Int) := by omega
            clear hS hBR k1
            by_cases hij : i = j
            · have dij : ((i : Int) != (j : Int)) = false := by rw [hij]; exact bne_self_eq_false _
              have HJ := Lib.hid (show rJ (2 * n) f i (j + 1) X = Y by rw [hst, if_neg (fun k => k.1 hij)])
              clear hst hij
              go_wp2_with fail
              go_roundw
              case rel => exact ⟨j + 1, by go_num, by omega, Y, Lib.hid HJ.out.symm, HS0.out, HB0.out⟩
              case measure => simp [Go.RowKit.intOf]; omega
            · have dij : ((i : Int) != (j : Int)) = true := bne_iff_ne.2 (by omega)
              rcases z1 with _ | _
              · rcases z2 with _ | _
                · have HJ := Lib.hid (show rJ (2 * n) f i (j + 1) X = Y by rw [hst, if_neg (fun k => by simp at k)])
                  clear hst hij
                  go_wp2_with fail
                  go_roundw
                  case rel => exact ⟨j + 1, by go_num, by omega, Y, Lib.hid HJ.out.symm, HS0.out, HB0.out⟩
                  case measure => simp [Go.RowKit.intOf]; omega
                · have HJ := Lib.hid (show rJ (2 * n) f i (j + 1) X = Y.set (pi + j) 9223372036854775807 by rw [hst, if_pos ⟨hij, by simp⟩])
                  clear hst hij
                  go_wp2_with fail
                  go_roundw
                  case rel => exact ⟨j + 1, by go_num, by omega, _, Lib.hid HJ.out.symm, HP1.out, HB1.out⟩
                  case measure => simp [Go.RowKit.intOf]; omega
              · have HJ := Lib.hid (show rJ (2 * n) f i (j + 1) X = Y.set (pi + j) 9223372036854775807 by rw [hst, if_pos ⟨hij, by simp⟩])
                clear hst hij
                go_wp2_with fail
                go_roundw
                case rel => exact ⟨j + 1, by go_num, by omega, _, Lib.hid HJ.out.symm, HP1.out, HB1.out⟩
                case measure => simp [Go.RowKit.intOf]; omega
          · obtain rfl : j = 2 * n := by omega
            go_wp2_with fail
            go_roundw
            case rel => exact ⟨i + 1, by go_num, by omega, Y, Lib.hid (by rw [HY.out, HX.out]; rfl), hS, hBR⟩
            case measure => simp [Go.RowKit.intOf]; omega
      · have hii : i = 2 * n := by omega
        have dk : decide ((i : Int) < 2 * (n : Int)) = false := decide_eq_false (by omega)
        have HX2 := Lib.hid (show P = ((n : Int), false, X) by rw [HP.out, HX.out, hii])
        clear HX HP hii
        obtain ⟨y7, g7⟩ := hS.res.put n false (.slice A q c)
        have hO := hS.row.turn g7 (fun g' hg' => by have := hS.ne g' hg'; omega)
        have hB := ((hS.below.setCell (p := ⟨w.heap.size + 1, 0, none⟩) (by simp; omega) (.int .i64 n)).setCell (p := ⟨w.heap.size + 1, 1, none⟩) (by simp; omega) (.bool false)).setCell (p := ⟨w.heap.size + 1, 2, none⟩) (by simp; omega) (.slice A q c)
        obtain ⟨⟨r0, r1, r2⟩, fr⟩ := id hS.res
        have HXl := Lib.hid hS.len
        have HH := Lib.hid (And.intro y7.box (And.intro hO hB))
        clear y7 g7 hO hB hS hBR
        go_wp2_with fail
        obtain ⟨⟨c0, c1, c2⟩, hO, hB⟩ := HH.out
        refine bodyPost_ret (v := .agg #[.int .i64 n, .bool false, .slice A q c]) (by simp [results, Try.results58, go_sem, c0, c1, c2, r0, r1, r2]) rfl ?_
        rw [HX2.out]
        exact ⟨by rw [HXl.out], hO, hB⟩
  · have hP2 : P = ((n : Int), true, M) := by rw [hP]; rfl
    subst hP2
    have hO := (ho.alloc (.cells #[.int .i64 n, .bool true, .slice A M.length c] 24)).alloc (.cells #[.int .i64 n, .bool true, .slice A M.length c] 24)
    have hB3 := ((Below.refl base w).alloc hbs (.cells #[.int .i64 n, .bool true, .slice A M.length c] 24)).alloc (by simp; omega) (.cells #[.int .i64 n, .bool true, .slice A M.length c] 24)
    have HH := Lib.hid (And.intro hO hB3)
    clear hP hc h1 h0 hm hD hne ho hO hB3
    go_enter Try.func58, Try.ntmps58
    go_wp2_with fail
    obtain ⟨hO, hB3⟩ := HH.out
    exact bodyPost_ret (v := .agg #[.int .i64 n, .bool true, .slice A M.length c]) (by simp [results, Try.results58, go_sem]) rfl ⟨rfl, hO, hB3⟩
end Go.Proofs.Ytkgddgckilledaa
