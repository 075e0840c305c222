/- The walks of sides and strengthens, of the package close. -/
import Derived.Test.YtkgddgckilledaaClp
namespace Go.Proofs.Ytkgddgckilledaa
open Go.RowKit
set_option linter.unusedVariables false
set_option linter.unusedSimpArgs false
open Gn
theorem tStep_diag (m i : Nat) (S : MS) : tStep m i i S = S := if_pos rfl
set_option maxHeartbeats 2000000 in
theorem mx_strengthens {w0 w : World} {B b n c : Nat} {A : Option Addr} {X : List Int} {s : Bool} {e : Option Bool} (h : Mx w0 w B b A n c X s e) (hn : n ≤ 64) (hl : X.length = (2 * n) * (2 * n)) :
    Calls Try.prog 88 #[.pointer (some ⟨b, 0, none⟩)] w fun r w' => r = .returned (.tuple #[]) ∧ Mx w0 w' B b A n c (strong (2 * n) (X, s)).1 (strong (2 * n) (X, s)).2 e := by
  have c0 := h.c0
  go_enter Try.func88, Try.ntmps88
  go_wp2_with fail
  go_loopw [10] (fun s' wr => ∃ i : Nat, s' = .int .i64 i ∧ i ≤ 2 * n ∧ ∃ S : MS, Hid (S = tI (2 * n) i (X, s)) ∧ Mx w0 wr B b A n c S.1 S.2 e) (fun s _ => 2 * n - (intOf s).toNat)
  case atStart => exact ⟨0, rfl, by omega, (X, s), Lib.hid rfl, h⟩
  case round =>
    obtain ⟨i, rfl, hi, S, HS, hM⟩ := hrel
    clear h c0
    have c0 := hM.c0
    rcases Nat.lt_or_ge i (2 * n) with hit | hge
    · have di : decide ((i : Int) < 2 * (n : Int)) = true := decide_eq_true (by omega)
      go_wp2_with fail
      go_loopw [18] (fun s' wr => ∃ j : Nat, s' = .int .i64 j ∧ j ≤ 2 * n ∧ ∃ S' : MS, Hid (S' = tJ (2 * n) i j S) ∧ Mx w0 wr B b A n c S'.1 S'.2 e) (fun s _ => 2 * n - (intOf s).toNat)
      case atStart => exact ⟨0, rfl, by omega, S, Lib.hid rfl, hM⟩
      case round =>
        obtain ⟨j, rfl, hj, Y, HY, hN⟩ := hrel
        clear hM c0
        have c0 := hN.c0
        rcases Nat.lt_or_ge j (2 * n) with hjt | hjge
        · by_cases hij : i = j
          · subst hij
            have HJ := Lib.hid (show tJ (2 * n) i (i + 1) S = Y by rw [HY.out]; exact tStep_diag _ _ _)
            clear c0
            go_wp2_with fail
            go_roundw
            case rel => exact ⟨i + 1, by go_num, by omega, Y, Lib.hid HJ.out.symm, hN⟩
            case measure => simp [intOf]; omega
          · have hbb : ((i : Int) != j) = true := bne_iff_ne.2 (by omega)
            have hSt : tJ (2 * n) i (j + 1) S = tStep (2 * n) i j Y := by rw [HY.out]; rfl
            unfold tStep at hSt
            rw [if_neg hij] at hSt
            have hl2 : Y.1.length = (2 * n) * (2 * n) := by rw [HY.out, tJ_len, HS.out, tI_len]; exact hl
            have hai := ac_lt hit
            have haj := ac_lt hjt
            have hp1 : i * (2 * n) + j < Y.1.length := by rw [hl2]; exact idx_lt hit hjt
            have hp2 : i * (2 * n) + ac i < Y.1.length := by rw [hl2]; exact idx_lt hit hai
            have hp3 : ac j * (2 * n) + j < Y.1.length := by rw [hl2]; exact idx_lt haj hjt
            obtain ⟨g, rfl, hg1, hg2⟩ := hN.blockOf (by omega)
            have c1 := hN.c1
            have cA := mx_at (i := i) (j := j) c0 c1 (by omega) (by omega) (by omega) hp1
            have ei := xor_one (x := i) (by omega)
            have ej := xor_one (x := j) (by omega)
            have HJ := Lib.hid hSt
            clear hSt hl2 hij
            go_wp2_with (go_at_call 92; with_reducible refine cA.mono ?_; rintro r w3 ⟨rfl, m, rfl⟩)
            have hN4 := hN.go (below_drewN wr m)
            clear hN c0 c1 cA
            generalize wr.drewN m = w4 at *
            have v1 := fun (W : World) (s' : Bool) (h : Mx w0 W B b (some ⟨g, 0, none⟩) n c Y.1 s' e) => h.cellAt hp1
            have v2 := fun (W : World) (s' : Bool) (h : Mx w0 W B b (some ⟨g, 0, none⟩) n c Y.1 s' e) => h.cellAt hp2
            have v3 := fun (W : World) (s' : Bool) (h : Mx w0 W B b (some ⟨g, 0, none⟩) n c Y.1 s' e) => h.cellAt hp3
            generalize nth Y.1 (i * (2 * n) + j) = x1 at *
            generalize nth Y.1 (i * (2 * n) + ac i) = x2 at *
            generalize nth Y.1 (ac j * (2 * n) + j) = x3 at *
            have cA1 := fun W (h0 : W.cell? ⟨b, 0, none⟩ = some (.int .i64 n)) h1 => mx_at (w := W) (b := b) (g := g) (c := c) (n := n) (i := i) (j := ac i) (l := Y.1.length) h0 h1 (by omega) (by omega) (by omega) hp2
            have cA2 := fun W (h0 : W.cell? ⟨b, 0, none⟩ = some (.int .i64 n)) h1 => mx_at (w := W) (b := b) (g := g) (c := c) (n := n) (i := ac j) (j := j) (l := Y.1.length) h0 h1 (by omega) (by omega) (by omega) hp3
            have cL := fun W => bound_Less x1 (half (plus x2 x3)) W
            have cH := fun W => bound_Half (plus x2 x3) W
            generalize half (plus x2 x3) = x5 at *
            generalize i * (2 * n) + j = p1 at *
            generalize i * (2 * n) + ac i = p2 at *
            generalize ac j * (2 * n) + j = p3 at *
            generalize ac i = ai at *
            generalize ac j = aj at *
            obtain ⟨T, hT⟩ : ∃ T : Bool → World → Prop, T = fun t W => Mx w0 W B b (some ⟨g, 0, none⟩) n c Y.1 (bif t then (Y.2 || sat x2 x3) else Y.2) e := ⟨_, rfl⟩
            have hT' : ∀ t W, T t W ↔ Mx w0 W B b (some ⟨g, 0, none⟩) n c Y.1 (bif t then (Y.2 || sat x2 x3) else Y.2) e := fun t W => by rw [hT]
            clear hT
            have l1 : ∀ x : TW T, x.w.cell? ⟨g, p1, none⟩ = some (.int .i64 x1) := fun x => v1 _ _ ((hT' _ _).1 x.h)
            have l2 : ∀ x : TW T, x.w.cell? ⟨g, p2, none⟩ = some (.int .i64 x2) := fun x => v2 _ _ ((hT' _ _).1 x.h)
            have l3 : ∀ x : TW T, x.w.cell? ⟨g, p3, none⟩ = some (.int .i64 x3) := fun x => v3 _ _ ((hT' _ _).1 x.h)
            haveI : Nonempty (TW T) := ⟨⟨false, w4, (hT' _ _).2 hN4⟩⟩
            refine wp_region_turn T 19 23 (by kernel_rfl) (by kernel_rfl) ((hT' _ _).2 (hN4.go (Below.refl _ _).drew)) ?_
            simp only [List.take_succ_cons, List.take_zero, List.drop_succ_cons, List.drop_zero]
            iterate 9 (first | (refine wpT_plain (by decide) (by rfl) rfl ?_; intro K hK; go_big_quiet_op; go_big_quiet_on) | (refine wpT_check (by decide) (by rfl) rfl rfl ?_; intro K hK; go_big_quiet_op; go_big_quiet_on) | (refine wpT_skip (by decide) (by rfl) ?_; intro K hK; go_big_quiet_op; go_big_quiet_on))
            refine wpT_call 92 #[.pointer (some ⟨b, 0, none⟩), .int .i64 i, .int .i64 ai] (.pointer (some ⟨g, p2, none⟩)) (by kernel_rfl) (fun w => by kernel_rfl) ?_ ?_
            · intro t W hW
              have hW := (hT' _ _).1 hW
              refine (cA1 W hW.c0 hW.c1).mono ?_
              rintro r W' ⟨rfl, m, rfl⟩
              exact ⟨rfl, (hT' _ _).2 (by rw [show (t || decide (9 = 19)) = t by simp]; exact hW.go (below_drewN _ m))⟩
            (intro K hK; go_big_quiet_op; go_big_quiet_on)
            iterate 6 (first | (refine wpT_plain (by decide) (by rfl) rfl ?_; intro K hK; go_big_quiet_op; go_big_quiet_on) | (refine wpT_check (by decide) (by rfl) rfl rfl ?_; intro K hK; go_big_quiet_op; go_big_quiet_on) | (refine wpT_skip (by decide) (by rfl) ?_; intro K hK; go_big_quiet_op; go_big_quiet_on))
            refine wpT_call 92 #[.pointer (some ⟨b, 0, none⟩), .int .i64 aj, .int .i64 j] (.pointer (some ⟨g, p3, none⟩)) (by kernel_rfl) (fun w => by kernel_rfl) ?_ ?_
            · intro t W hW
              have hW := (hT' _ _).1 hW
              refine (cA2 W hW.c0 hW.c1).mono ?_
              rintro r W' ⟨rfl, m, rfl⟩
              exact ⟨rfl, (hT' _ _).2 (by rw [show (t || decide (16 = 19)) = t by simp]; exact hW.go (below_drewN _ m))⟩
            (intro K hK; go_big_quiet_op; go_big_quiet_on)
            iterate 2 (first | (refine wpT_plain (by decide) (by rfl) rfl ?_; intro K hK; go_big_quiet_op; go_big_quiet_on) | (refine wpT_check (by decide) (by rfl) rfl rfl ?_; intro K hK; go_big_quiet_op; go_big_quiet_on) | (refine wpT_skip (by decide) (by rfl) ?_; intro K hK; go_big_quiet_op; go_big_quiet_on))
            refine wpT_call 93 #[.pointer (some ⟨b, 0, none⟩), .int .i64 x2, .int .i64 x3] (.int .i64 (plus x2 x3)) (by kernel_rfl) (fun w => by kernel_rfl) ?_ ?_
            · intro t W hW
              have hW := (hT' _ _).1 hW
              refine (mx_sum hW x2 x3).mono ?_
              rintro r W' ⟨rfl, hW'⟩
              refine ⟨rfl, (hT' _ _).2 ?_⟩
              rw [show (t || decide (19 = 19)) = true by simp]
              cases t
              · exact hW'
              · rw [show ((bif true then (Y.2 || sat x2 x3) else Y.2) || sat x2 x3) = (Y.2 || sat x2 x3) by cases Y.2 <;> cases sat x2 x3 <;> rfl] at hW'
                exact hW'
            (intro K hK; go_big_quiet_op; go_big_quiet_on)
            refine wpT_call 95 #[.int .i64 (plus x2 x3)] (.int .i64 x5) (by kernel_rfl) (fun w => by kernel_rfl) ?_ ?_
            · intro t W hW
              refine (cH W).mono ?_
              rintro r W' ⟨rfl, rfl⟩
              exact ⟨rfl, by rw [show (t || decide (20 = 19)) = t by simp]; exact hW⟩
            (intro K hK; go_big_quiet_op; go_big_quiet_on)
            refine wpT_call 50 #[.int .i64 x1, .int .i64 x5] (.int .i64 (less x1 x5)) (by kernel_rfl) (fun w => by kernel_rfl) ?_ ?_
            · intro t W hW
              refine (cL W).mono ?_
              rintro r W' ⟨rfl, rfl⟩
              exact ⟨rfl, by rw [show (t || decide (21 = 19)) = t by simp]; exact hW⟩
            (intro K hK; go_big_quiet_op; go_big_quiet_on)
            iterate 1 (first | (refine wpT_plain (by decide) (by rfl) rfl ?_; intro K hK; go_big_quiet_op; go_big_quiet_on) | (refine wpT_check (by decide) (by rfl) rfl rfl ?_; intro K hK; go_big_quiet_op; go_big_quiet_on) | (refine wpT_skip (by decide) (by rfl) ?_; intro K hK; go_big_quiet_op; go_big_quiet_on))
            refine wpT_nil ?_
            intro w5 hw5
            have hN5 := (hT' _ _).1 hw5
            have k1 := v1 _ _ hN5
            have kf := hN5.frozenAt p1
            have hN6 := hN5.put p1 (less x1 x5) hg1
            clear hN5 hw5 hN4 l1 l2 l3 v1 v2 v3 cA1 cA2 cL cH hT'
            rw [show (bif true then (Y.2 || sat x2 x3) else Y.2) = (Y.2 || sat x2 x3) from rfl] at hN6
            generalize less x1 x5 = x4 at *
            generalize (Y.2 || sat x2 x3) = s4 at *
            go_wp2_with fail
            refine mixQ_normal ?_
            go_wp2_with fail
            go_roundw
            case rel => exact ⟨j + 1, by go_num, by omega, (Y.1.set p1 x4, s4), Lib.hid HJ.out.symm, hN6⟩
            case measure => simp [intOf]; omega
        · obtain rfl : j = 2 * n := by omega
          go_wp2_with fail
          go_roundw
          case rel => exact ⟨i + 1, by go_num, by omega, Y, Lib.hid (by rw [HY.out, HS.out]; rfl), hN⟩
          case measure => simp [intOf]; omega
    · obtain rfl : i = 2 * n := by omega
      clear c0
      go_wp2_with fail
      go_end0
      refine ⟨rfl, ?_⟩
      rw [← show S = strong (2 * n) (X, s) from HS.out]
      exact hM
set_option maxHeartbeats 2000000 in
theorem mx_sides {w0 w : World} {B b n c : Nat} {A : Option Addr} {X : List Int} {s : Bool} (h : Mx w0 w B b A n c X s (some false)) (hn : n ≤ 64) (hl : X.length = (2 * n) * (2 * n)) :
    Calls Try.prog 87 #[.pointer (some ⟨b, 0, none⟩)] w fun r w' => r = .returned (.tuple #[]) ∧ Mx w0 w' B b A n c X (sides (2 * n) X s).2 (some (sides (2 * n) X s).1) := by
  have c0 := h.c0
  go_enter Try.func87, Try.ntmps87
  go_wp2_with fail
  go_loopw [8] (fun s' wr => ∃ i : Nat, s' = .int .i64 i ∧ i ≤ 2 * n ∧ ∃ S : Bool × Bool, Hid (S = sI (2 * n) X i (false, s)) ∧ Mx w0 wr B b A n c X S.2 (some S.1)) (fun s _ => 2 * n - (intOf s).toNat)
  case atStart => exact ⟨0, rfl, by omega, (false, s), Lib.hid rfl, h⟩
  case round =>
    obtain ⟨i, rfl, hi, Y, HY, hN⟩ := hrel
    clear h c0
    have c0 := hN.c0
    rcases Nat.lt_or_ge i (2 * n) with hit | hge
    · have hSt : sI (2 * n) X (i + 1) (false, s) = sStep (2 * n) X i Y := by rw [HY.out]; rfl
      unfold sStep at hSt
      have hai := ac_lt hit
      have hp2 : i * (2 * n) + ac i < X.length := by rw [hl]; exact idx_lt hit hai
      have hp3 : ac i * (2 * n) + i < X.length := by rw [hl]; exact idx_lt hai hit
      obtain ⟨g, rfl, hg1, hg2⟩ := hN.blockOf (by omega)
      have ei := xor_one (x := i) (by omega)
      obtain ⟨e0, s0⟩ := Y
      have HJ := Lib.hid hSt
      clear hSt HY
      go_wp2_with fail
      have v2 := fun (W : World) (s' : Bool) (h : Mx w0 W B b (some ⟨g, 0, none⟩) n c X s' (some e0)) => h.cellAt hp2
      have v3 := fun (W : World) (s' : Bool) (h : Mx w0 W B b (some ⟨g, 0, none⟩) n c X s' (some e0)) => h.cellAt hp3
      generalize nth X (i * (2 * n) + ac i) = x2 at *
      generalize nth X (ac i * (2 * n) + i) = x3 at *
      have cA1 := fun W (h0 : W.cell? ⟨b, 0, none⟩ = some (.int .i64 n)) h1 => mx_at (w := W) (b := b) (g := g) (c := c) (n := n) (i := i) (j := ac i) (l := X.length) h0 h1 (by omega) (by omega) (by omega) hp2
      have cA2 := fun W (h0 : W.cell? ⟨b, 0, none⟩ = some (.int .i64 n)) h1 => mx_at (w := W) (b := b) (g := g) (c := c) (n := n) (i := ac i) (j := i) (l := X.length) h0 h1 (by omega) (by omega) (by omega) hp3
      generalize i * (2 * n) + ac i = p2 at *
      generalize ac i * (2 * n) + i = p3 at *
      generalize ac i = ai at *
      obtain ⟨T, hT⟩ : ∃ T : Bool → World → Prop, T = fun t W => Mx w0 W B b (some ⟨g, 0, none⟩) n c X (bif t then (s0 || sat x2 x3) else s0) (some e0) := ⟨_, rfl⟩
      have hT' : ∀ t W, T t W ↔ Mx w0 W B b (some ⟨g, 0, none⟩) n c X (bif t then (s0 || sat x2 x3) else s0) (some e0) := fun t W => by rw [hT]
      clear hT
      have l2 : ∀ x : TW T, x.w.cell? ⟨g, p2, none⟩ = some (.int .i64 x2) := fun x => v2 _ _ ((hT' _ _).1 x.h)
      have l3 : ∀ x : TW T, x.w.cell? ⟨g, p3, none⟩ = some (.int .i64 x3) := fun x => v3 _ _ ((hT' _ _).1 x.h)
      have l4 : ∀ x : TW T, x.w.cell? ⟨b, 3, none⟩ = some (.bool e0) := fun x => ((hT' _ _).1 x.h).c3 _ rfl
      haveI : Nonempty (TW T) := ⟨⟨false, wr, (hT' _ _).2 hN⟩⟩
      by_cases hx : plus x2 x3 < 0
      all_goals
        first
          | (have hd : decide (plus x2 x3 < 0) = true := decide_eq_true hx)
          | (have hd : decide (plus x2 x3 < 0) = false := decide_eq_false hx)
        rw [hd] at HJ
        refine wp_region_turn T 16 24 (by kernel_rfl) (by kernel_rfl) ((hT' _ _).2 (hN.go (Below.refl _ _).drew)) ?_
        simp only [List.take_succ_cons, List.take_zero, List.drop_succ_cons, List.drop_zero]
        iterate 6 (first | (refine wpT_plain (by decide) (by rfl) rfl ?_; intro K hK; go_big_quiet_op; go_big_quiet_on) | (refine wpT_check (by decide) (by rfl) rfl rfl ?_; intro K hK; go_big_quiet_op; go_big_quiet_on) | (refine wpT_skip (by decide) (by rfl) ?_; intro K hK; go_big_quiet_op; go_big_quiet_on))
        refine wpT_call 92 #[.pointer (some ⟨b, 0, none⟩), .int .i64 i, .int .i64 ai] (.pointer (some ⟨g, p2, none⟩)) (by kernel_rfl) (fun w => by kernel_rfl) ?_ ?_
        · intro t W hW
          have hW := (hT' _ _).1 hW
          refine (cA1 W hW.c0 hW.c1).mono ?_
          rintro r W' ⟨rfl, m, rfl⟩
          exact ⟨rfl, (hT' _ _).2 (by rw [show (t || decide (6 = 16)) = t by simp]; exact hW.go (below_drewN _ m))⟩
        (intro K hK; go_big_quiet_op; go_big_quiet_on)
        iterate 6 (first | (refine wpT_plain (by decide) (by rfl) rfl ?_; intro K hK; go_big_quiet_op; go_big_quiet_on) | (refine wpT_check (by decide) (by rfl) rfl rfl ?_; intro K hK; go_big_quiet_op; go_big_quiet_on) | (refine wpT_skip (by decide) (by rfl) ?_; intro K hK; go_big_quiet_op; go_big_quiet_on))
        refine wpT_call 92 #[.pointer (some ⟨b, 0, none⟩), .int .i64 ai, .int .i64 i] (.pointer (some ⟨g, p3, none⟩)) (by kernel_rfl) (fun w => by kernel_rfl) ?_ ?_
        · intro t W hW
          have hW := (hT' _ _).1 hW
          refine (cA2 W hW.c0 hW.c1).mono ?_
          rintro r W' ⟨rfl, m, rfl⟩
          exact ⟨rfl, (hT' _ _).2 (by rw [show (t || decide (13 = 16)) = t by simp]; exact hW.go (below_drewN _ m))⟩
        (intro K hK; go_big_quiet_op; go_big_quiet_on)
        iterate 2 (first | (refine wpT_plain (by decide) (by rfl) rfl ?_; intro K hK; go_big_quiet_op; go_big_quiet_on) | (refine wpT_check (by decide) (by rfl) rfl rfl ?_; intro K hK; go_big_quiet_op; go_big_quiet_on) | (refine wpT_skip (by decide) (by rfl) ?_; intro K hK; go_big_quiet_op; go_big_quiet_on))
        refine wpT_call 93 #[.pointer (some ⟨b, 0, none⟩), .int .i64 x2, .int .i64 x3] (.int .i64 (plus x2 x3)) (by kernel_rfl) (fun w => by kernel_rfl) ?_ ?_
        · intro t W hW
          have hW := (hT' _ _).1 hW
          refine (mx_sum hW x2 x3).mono ?_
          rintro r W' ⟨rfl, hW'⟩
          refine ⟨rfl, (hT' _ _).2 ?_⟩
          rw [show (t || decide (16 = 16)) = true by simp]
          cases t
          · exact hW'
          · rw [show ((bif true then (s0 || sat x2 x3) else s0) || sat x2 x3) = (s0 || sat x2 x3) by cases s0 <;> cases sat x2 x3 <;> rfl] at hW'
            exact hW'
        (intro K hK; go_big_quiet_op; go_big_quiet_on)
        iterate 7 (first | (refine wpT_plain (by decide) (by rfl) rfl ?_; intro K hK; go_big_quiet_op; go_big_quiet_on) | (refine wpT_check (by decide) (by rfl) rfl rfl ?_; intro K hK; go_big_quiet_op; go_big_quiet_on) | (refine wpT_skip (by decide) (by rfl) ?_; intro K hK; go_big_quiet_op; go_big_quiet_on))
        refine wpT_nil ?_
        intro w5 hw5
        have hN5 := (hT' _ _).1 hw5
        have k3 := hN5.c3 _ rfl
        have kf := hN5.fz 3
        rw [show (bif true then (s0 || sat x2 x3) else s0) = (s0 || sat x2 x3) from rfl] at hN5
        have H1 := Lib.hid (hN5.emp true)
        have H2 := Lib.hid (hN5.emp e0)
        clear hN5 hw5 hN l2 l3 l4 v2 v3 cA1 cA2 hT' c0
        generalize (s0 || sat x2 x3) = s4 at *
        go_wp2_with fail
        refine mixQ_normal ?_
        go_wp2_with fail
        go_roundw
        case rel => exact ⟨i + 1, by go_num, by omega, _, Lib.hid HJ.out.symm, by first | exact H1.out | exact H2.out⟩
        case measure => simp [intOf]; omega
    · obtain rfl : i = 2 * n := by omega
      clear c0
      go_wp2_with fail
      go_end0
      refine ⟨rfl, ?_⟩
      rw [← show Y = sides (2 * n) X s from HY.out]
      exact hN
end Go.Proofs.Ytkgddgckilledaa
