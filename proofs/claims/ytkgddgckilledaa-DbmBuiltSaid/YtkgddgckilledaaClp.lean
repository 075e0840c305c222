/- The walk of paths, of the package close. -/
import Derived.Test.YtkgddgckilledaaMx
import Derived.Test.YtkgddgckilledaaCls
namespace Go.Proofs.Ytkgddgckilledaa
open Go.RowKit
set_option linter.unusedVariables false
set_option linter.unusedSimpArgs false
open Gn
theorem below_drewN (w : World) (m : Nat) : Below w.heap.size w (w.drewN m) := ⟨rfl, rfl, rfl, Nat.le_refl _, fun _ _ => rfl⟩
set_option maxHeartbeats 2000000 in
theorem mx_paths {w0 w : World} {B b n c : Nat} {A : Option Addr} {X : List Int} {s : Bool} {e : Option Bool} (h : Mx w0 w B b A n c X s e) (hn : n ≤ 64) (hl : X.length = (2 * n) * (2 * n)) :
    Calls Try.prog 83 #[.pointer (some ⟨b, 0, none⟩)] w fun r w' => r = .returned (.tuple #[]) ∧ Mx w0 w' B b A n c (paths (2 * n) (X, s)).1 (paths (2 * n) (X, s)).2 e := by
  have c0 := h.c0
  go_enter Try.func83, Try.ntmps83
  go_wp2_with fail
  go_loopw [11] (fun s' wr => ∃ k : Nat, s' = .int .i64 k ∧ k ≤ 2 * n ∧ ∃ S : MS, Hid (S = pK (2 * n) k (X, s)) ∧ Mx w0 wr B b A n c S.1 S.2 e) (fun s _ => 2 * n - (intOf s).toNat)
  case atStart => exact ⟨0, rfl, by omega, (X, s), Lib.hid rfl, h⟩
  case round =>
    obtain ⟨k, rfl, hk, S, HS, hM⟩ := hrel
    clear h c0
    have c0 := hM.c0
    rcases Nat.lt_or_ge k (2 * n) with hkt | hge
    · have dk : decide ((k : Int) < 2 * (n : Int)) = true := decide_eq_true (by omega)
      go_wp2_with fail
      go_loopw [19] (fun s' wr => ∃ i : Nat, s' = .int .i64 i ∧ i ≤ 2 * n ∧ ∃ S' : MS, Hid (S' = pI (2 * n) k i S) ∧ Mx w0 wr B b A n c S'.1 S'.2 e) (fun s _ => 2 * n - (intOf s).toNat)
      case atStart => exact ⟨0, rfl, by omega, S, Lib.hid rfl, hM⟩
      case round =>
        obtain ⟨i, rfl, hi, S', HS', hM'⟩ := hrel
        clear hM c0
        have c0 := hM'.c0
        rcases Nat.lt_or_ge i (2 * n) with hit | hige
        · have di : decide ((i : Int) < 2 * (n : Int)) = true := decide_eq_true (by omega)
          go_wp2_with fail
          go_loopw [27] (fun s' wr => ∃ j : Nat, s' = .int .i64 j ∧ j ≤ 2 * n ∧ ∃ S'' : MS, Hid (S'' = pJ (2 * n) k i j S') ∧ Mx w0 wr B b A n c S''.1 S''.2 e) (fun s _ => 2 * n - (intOf s).toNat)
          case atStart => exact ⟨0, rfl, by omega, S', Lib.hid rfl, hM'⟩
          case round =>
            obtain ⟨j, rfl, hj, Y, HY, hN⟩ := hrel
            clear hM' c0
            rcases Nat.lt_or_ge j (2 * n) with hjt | hjge
            · have HJ := Lib.hid (show pStep (2 * n) k i j Y = pJ (2 * n) k i (j + 1) S' by rw [HY.out]; rfl)
              have hl2 : Y.1.length = (2 * n) * (2 * n) := by rw [HY.out, pJ_len, HS'.out, pI_len, HS.out, pK_len]; exact hl
              have hp1 : i * (2 * n) + j < Y.1.length := by rw [hl2]; exact idx_lt hit hjt
              have hp2 : i * (2 * n) + k < Y.1.length := by rw [hl2]; exact idx_lt hit hkt
              have hp3 : k * (2 * n) + j < Y.1.length := by rw [hl2]; exact idx_lt hkt hjt
              obtain ⟨g, rfl, hg1, hg2⟩ := hN.blockOf (by omega)
              have c0 := hN.c0
              have c1 := hN.c1
              have cA := fun (p q : Nat) (hp : p < 1000) (hq : q < 1000) (hpq : p * (2 * n) + q < Y.1.length) => mx_at (i := p) (j := q) c0 c1 hp hq (by omega) hpq
              go_wp2_with (go_at_call 92; with_reducible refine (cA i j (by omega) (by omega) hp1).mono ?_; rintro r w3 ⟨rfl, m, rfl⟩)
              have hN4 := hN.go (w' := wr.drewN m) (below_drewN _ m)
              clear hN c0 c1 cA
              generalize wr.drewN m = w4 at *
              have v1 := fun (W : World) (s' : Bool) (h : Mx w0 W B b (some ⟨g, 0, none⟩) n c Y.1 s' e) => h.cellAt hp1
              have v2 := fun (W : World) (s' : Bool) (h : Mx w0 W B b (some ⟨g, 0, none⟩) n c Y.1 s' e) => h.cellAt hp2
              have v3 := fun (W : World) (s' : Bool) (h : Mx w0 W B b (some ⟨g, 0, none⟩) n c Y.1 s' e) => h.cellAt hp3
              have hSt : pStep (2 * n) k i j Y = (Y.1.set (i * (2 * n) + j) (less (nth Y.1 (i * (2 * n) + j)) (plus (nth Y.1 (i * (2 * n) + k)) (nth Y.1 (k * (2 * n) + j)))), Y.2 || sat (nth Y.1 (i * (2 * n) + k)) (nth Y.1 (k * (2 * n) + j))) := rfl
              rw [hSt] at HJ
              clear hSt
              generalize nth Y.1 (i * (2 * n) + j) = x1 at *
              generalize nth Y.1 (i * (2 * n) + k) = x2 at *
              generalize nth Y.1 (k * (2 * n) + j) = x3 at *
              have cA1 := fun W (h0 : W.cell? ⟨b, 0, none⟩ = some (.int .i64 n)) h1 => mx_at (w := W) (b := b) (g := g) (c := c) (n := n) (i := i) (j := k) (l := Y.1.length) h0 h1 (by omega) (by omega) (by omega) hp2
              have cA2 := fun W (h0 : W.cell? ⟨b, 0, none⟩ = some (.int .i64 n)) h1 => mx_at (w := W) (b := b) (g := g) (c := c) (n := n) (i := k) (j := j) (l := Y.1.length) h0 h1 (by omega) (by omega) (by omega) hp3
              have cL := fun W => bound_Less x1 (plus x2 x3) W
              have cS := fun W (h : Mx w0 W B b (some ⟨g, 0, none⟩) n c Y.1 Y.2 e) => mx_sum h x2 x3
              have cS' := fun W (h : Mx w0 W B b (some ⟨g, 0, none⟩) n c Y.1 (Y.2 || sat x2 x3) e) => mx_sum h x2 x3
              generalize i * (2 * n) + j = p1 at *
              generalize i * (2 * n) + k = p2 at *
              generalize k * (2 * n) + j = p3 at *
              obtain ⟨T, hT⟩ : ∃ T : Bool → World → Prop, T = fun t W => Mx w0 W B b (some ⟨g, 0, none⟩) n c Y.1 (bif t then (Y.2 || sat x2 x3) else Y.2) e := ⟨_, rfl⟩
              have hT' : ∀ t W, T t W ↔ Mx w0 W B b (some ⟨g, 0, none⟩) n c Y.1 (bif t then (Y.2 || sat x2 x3) else Y.2) e := fun t W => by rw [hT]
              clear hT
              have l1 : ∀ x : TW T, x.w.cell? ⟨g, p1, none⟩ = some (.int .i64 x1) := fun x => v1 _ _ ((hT' _ _).1 x.h)
              have l2 : ∀ x : TW T, x.w.cell? ⟨g, p2, none⟩ = some (.int .i64 x2) := fun x => v2 _ _ ((hT' _ _).1 x.h)
              have l3 : ∀ x : TW T, x.w.cell? ⟨g, p3, none⟩ = some (.int .i64 x3) := fun x => v3 _ _ ((hT' _ _).1 x.h)
              haveI : Nonempty (TW T) := ⟨⟨false, w4, (hT' _ _).2 hN4⟩⟩
              refine wp_region_turn T 17 20 (by kernel_rfl) (by kernel_rfl) ((hT' _ _).2 (hN4.go (Below.refl _ _).drew)) ?_
              simp only [List.take_succ_cons, List.take_zero, List.drop_succ_cons, List.drop_zero]
              iterate 8 (first | (refine wpT_plain (by decide) (by rfl) rfl ?_; intro K hK; go_big_quiet_op; go_big_quiet_on) | (refine wpT_check (by decide) (by rfl) rfl rfl ?_; intro K hK; go_big_quiet_op; go_big_quiet_on) | (refine wpT_skip (by decide) (by rfl) ?_; intro K hK; go_big_quiet_op; go_big_quiet_on))
              refine wpT_call 92 #[.pointer (some ⟨b, 0, none⟩), .int .i64 i, .int .i64 k] (.pointer (some ⟨g, p2, none⟩)) (by kernel_rfl) (fun w => by kernel_rfl) ?_ ?_
              · intro t W hW
                have hW := (hT' _ _).1 hW
                refine (cA1 W hW.c0 hW.c1).mono ?_
                rintro r W' ⟨rfl, m, rfl⟩
                exact ⟨rfl, (hT' _ _).2 (by rw [show (t || decide (8 = 17)) = t by simp]; exact hW.go (below_drewN _ m))⟩
              (intro K hK; go_big_quiet_op; go_big_quiet_on)
              iterate 5 (first | (refine wpT_plain (by decide) (by rfl) rfl ?_; intro K hK; go_big_quiet_op; go_big_quiet_on) | (refine wpT_check (by decide) (by rfl) rfl rfl ?_; intro K hK; go_big_quiet_op; go_big_quiet_on) | (refine wpT_skip (by decide) (by rfl) ?_; intro K hK; go_big_quiet_op; go_big_quiet_on))
              refine wpT_call 92 #[.pointer (some ⟨b, 0, none⟩), .int .i64 k, .int .i64 j] (.pointer (some ⟨g, p3, none⟩)) (by kernel_rfl) (fun w => by kernel_rfl) ?_ ?_
              · intro t W hW
                have hW := (hT' _ _).1 hW
                refine (cA2 W hW.c0 hW.c1).mono ?_
                rintro r W' ⟨rfl, m, rfl⟩
                exact ⟨rfl, (hT' _ _).2 (by rw [show (t || decide (14 = 17)) = t by simp]; exact hW.go (below_drewN _ m))⟩
              (intro K hK; go_big_quiet_op; go_big_quiet_on)
              iterate 2 (first | (refine wpT_plain (by decide) (by rfl) rfl ?_; intro K hK; go_big_quiet_op; go_big_quiet_on) | (refine wpT_check (by decide) (by rfl) rfl rfl ?_; intro K hK; go_big_quiet_op; go_big_quiet_on) | (refine wpT_skip (by decide) (by rfl) ?_; intro K hK; go_big_quiet_op; go_big_quiet_on))
              refine wpT_call 93 #[.pointer (some ⟨b, 0, none⟩), .int .i64 x2, .int .i64 x3] (.int .i64 (plus x2 x3)) (by kernel_rfl) (fun w => by kernel_rfl) ?_ ?_
              · intro t W hW
                have hW := (hT' _ _).1 hW
                refine (mx_sum hW x2 x3).mono ?_
                rintro r W' ⟨rfl, hW'⟩
                refine ⟨rfl, (hT' _ _).2 ?_⟩
                rw [show (t || decide (17 = 17)) = true by simp]
                cases t
                · exact hW'
                · rw [show ((bif true then (Y.2 || sat x2 x3) else Y.2) || sat x2 x3) = (Y.2 || sat x2 x3) by cases Y.2 <;> cases sat x2 x3 <;> rfl] at hW'
                  exact hW'
              (intro K hK; go_big_quiet_op; go_big_quiet_on)
              refine wpT_call 50 #[.int .i64 x1, .int .i64 (plus x2 x3)] (.int .i64 (less x1 (plus x2 x3))) (by kernel_rfl) (fun w => by kernel_rfl) ?_ ?_
              · intro t W hW
                refine (cL W).mono ?_
                rintro r W' ⟨rfl, rfl⟩
                exact ⟨rfl, by rw [show (t || decide (18 = 17)) = t by simp]; exact hW⟩
              (intro K hK; go_big_quiet_op; go_big_quiet_on)
              iterate 1 (first | (refine wpT_plain (by decide) (by rfl) rfl ?_; intro K hK; go_big_quiet_op; go_big_quiet_on) | (refine wpT_check (by decide) (by rfl) rfl rfl ?_; intro K hK; go_big_quiet_op; go_big_quiet_on) | (refine wpT_skip (by decide) (by rfl) ?_; intro K hK; go_big_quiet_op; go_big_quiet_on))
              refine wpT_nil ?_
              intro w5 hw5
              have hN5 := (hT' _ _).1 hw5
              have k1 := v1 _ _ hN5
              have kf := hN5.frozenAt p1
              have hN6 := hN5.put p1 (less x1 (plus x2 x3)) hg1
              clear hN5 hw5 hN4 l1 l2 l3 v1 v2 v3 cA1 cA2 cL cS cS' hT'
              rw [show (bif true then (Y.2 || sat x2 x3) else Y.2) = (Y.2 || sat x2 x3) from rfl] at hN6
              generalize less x1 (plus x2 x3) = x4 at *
              generalize (Y.2 || sat x2 x3) = s4 at *
              go_wp2_with fail
              refine mixQ_normal ?_
              go_wp2_with fail
              go_roundw
              case rel => exact ⟨j + 1, by go_num, by omega, (Y.1.set p1 x4, s4), Lib.hid HJ.out, hN6⟩
              case measure => simp [intOf]; omega
            · obtain rfl : j = 2 * n := by omega
              go_wp2_with fail
              go_roundw
              case rel => exact ⟨i + 1, by go_num, by omega, Y, Lib.hid (by rw [HY.out, HS'.out]; rfl), hN⟩
              case measure => simp [intOf]; omega
        · obtain rfl : i = 2 * n := by omega
          clear c0
          go_wp2_with fail
          go_roundw
          case rel => exact ⟨k + 1, by go_num, by omega, S', Lib.hid (by rw [HS'.out, HS.out]; rfl), hM'⟩
          case measure => simp [intOf]; omega
    · obtain rfl : k = 2 * n := by omega
      clear c0
      go_wp2_with fail
      go_end0
      refine ⟨rfl, ?_⟩
      rw [← show S = paths (2 * n) (X, s) from HS.out]
      exact hM
end Go.Proofs.Ytkgddgckilledaa
