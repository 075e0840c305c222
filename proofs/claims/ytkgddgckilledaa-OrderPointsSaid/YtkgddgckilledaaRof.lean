/- The walk of Of, of the package gnomonref13. -/
import Derived.Test.YtkgddgckilledaaClw
import Derived.Test.YtkgddgckilledaaCfo
namespace Go.Proofs.Ytkgddgckilledaa
open Go.RowKit
set_option linter.unusedVariables false
set_option linter.unusedSimpArgs false
open Gn
namespace Gn
def ofP (n : Int) (E : Bool) (M : List Int) : (Int × Bool × List Int) × Bool := (closeP n E M).1
end Gn
/-- An octagon told, of the call's own memory, and whether a sum saturated (no error). -/
def TellsOf (w : World) (P : (Int × Bool × List Int) × Bool) (e : Ending) (w' : World) : Prop :=
  ∃ A c, e = .returned (.tuple #[.agg #[.int .i64 P.1.1, .bool P.1.2.1, .slice A P.1.2.2.length c], .bool P.2]) ∧ Ow w' w.heap.size 2 .i64 A c P.1.2.2 ∧ Below w.heap.size w w'
theorem tellsOf {w w' : World} {P : (Int × Bool × List Int) × Bool} {N : Int} {E : Bool} {M : List Int} {s : Bool} {A : Option Addr} {l c : Nat} {e : Ending} (hP : P = ((N, E, M), s)) (hl : l = M.length)
    (he : e = .returned (.tuple #[.agg #[.int .i64 N, .bool E, .slice A l c], .bool s])) (ho : Ow w' w.heap.size 2 .i64 A c M) (hb : Below w.heap.size w w') : TellsOf w P e w' := by
  subst hP hl he; exact ⟨A, c, rfl, ho, hb⟩
theorem Mx.box3 {w0 w : World} {B : Nat} {A : Option Addr} {n : Int} {c : Nat} {X : List Int} (ho : Ow w B 2 .i64 A c X) (hB : B ≤ w0.heap.size) (hb : Below B w0 w) (t : TypeId) :
    Mx w0 (w.alloc (.cells #[.int .i64 n, .slice A X.length c, .bool false] t)) B w.heap.size A n c X false none :=
  ⟨by simp [World.cell?_alloc_new], by simp [World.cell?_alloc_new], by simp [World.cell?_alloc_new], fun e' he => (by cases he), fun i => (by simp [go_sem]), ho.alloc _,
    fun g hg e => by
      subst hg e
      rcases ho.form with ⟨h, _⟩ | ⟨g', h, _, h2, _⟩
      · cases h
      · injection h with h; injection h with h; omega, Nat.le_trans hB hb.size, hB, hb.alloc (Nat.le_trans hB hb.size) _⟩
set_option maxRecDepth 100000 in
set_option maxHeartbeats 4000000 in
theorem ref_Of (n : Nat) (E : Bool) (A : Option Addr) (c : Nat) (M : List Int) (w : World) (h : OctIn w w.heap.size A c n M) (hM : (M.length : Int) ≤ 17592186043904) (hc : chk n E M = 0) :
    Calls Try.prog 57 #[.agg #[.int .i64 n, .bool E, .slice A M.length c]] w (TellsOf w (ofP n E M)) := by
  have hE := Try.elI64
  obtain ⟨W, hW, hR, hs⟩ := box_res w 24 n E (.slice A M.length c)
  have hW1 := h.go hR.below
  have hR := (⟨hR.c0, hR.c1, hR.c2, hR.r0, hR.r1, hR.r2, hR.fc, hR.fr, hR.below.mono (Nat.le_refl _), hR.lt⟩ : BoxRes w W n E (.slice A M.length c))
  obtain ⟨n', hn', hn, hE1, hE0⟩ := chk_zero hc
  obtain rfl : n = n' := by omega
  have HC := Lib.hid hc
  clear hc hn'
  obtain ⟨m0, m1, m2, r0, r1, r2, fc, fr, hB1, hl1⟩ := id hR
  rcases E with _ | _
  · have HL := Lib.hid (hE0 rfl).1
    have HB := Lib.hid (allB_of (n := n) (by rw [(hE0 rfl).1, sq2]) (hE0 rfl).2)
    clear hE0 hE1 r0 r1 r2 fc fr hB1
    have hr1 := hW1.rd
    have hsz : (([] : List Int).length + M.length) * 8 ≤ 140737488355328 := by simp; omega
    have hnil := Ow.nil W W.heap.size 2 .i64
    have hbs : W.heap.size ≤ W.heap.size := Nat.le_refl _
    go_enter Try.func57, Try.ntmps57
    go_wp2_with (first | (rw [← hW]; clear hW) | (at_builtin; refine wpList_appN hE _ rfl _ _ rfl _ .i64 none 0 [] rfl hnil _ A c M rfl hr1 hsz hbs ?_; intro A' c' w1 ho hb))
    rw [List.nil_append] at ho
    have hM4 := Mx.box3 (w0 := W) (n := 2 * (n : Int)) ho (Nat.le_refl _) hb /-T-/117
    generalize (w1.alloc _) = w4 at *
    generalize w1.heap.size = b at *
    clear hb ho m0 m1 m2 hr1 hsz hnil hbs hl1
    have HLm := Lib.hid (show M.length = (2 * n) * (2 * n) by rw [HL.out, sq2])
    go_loopw [6] (fun s' wr => ∃ k : Nat, s' = .int .i64 k ∧ k ≤ 2 * n ∧ ∃ S : MS, Hid (S = pK (2 * n) k (M, false)) ∧ Mx W wr W.heap.size b A' (2 * (n : Int)) c' S.1 S.2 none) (fun s _ => 2 * n - (intOf s).toNat)
    case atStart => exact ⟨0, rfl, by omega, (M, false), Lib.hid rfl, hM4⟩
    case round =>
      obtain ⟨k, rfl, hk, S, HS, hM⟩ := hrel
      clear hM4
      rcases Nat.lt_or_ge k (2 * n) with hkt | hge
      · have dk : decide ((k : Int) < 2 * (n : Int)) = true := decide_eq_true (by omega)
        go_wp2_with fail
        go_loopw [7] (fun s' wr => ∃ i : Nat, s' = .int .i64 i ∧ i ≤ 2 * n ∧ ∃ S' : MS, Hid (S' = pI (2 * n) k i S) ∧ Mx W wr W.heap.size b A' (2 * (n : Int)) c' S'.1 S'.2 none) (fun s _ => 2 * n - (intOf s).toNat)
        case atStart => exact ⟨0, rfl, by omega, S, Lib.hid rfl, hM⟩
        case round =>
          obtain ⟨i, rfl, hi, S', HS', hM'⟩ := hrel
          clear hM
          rcases Nat.lt_or_ge i (2 * n) with hit | hige
          · have di : decide ((i : Int) < 2 * (n : Int)) = true := decide_eq_true (by omega)
            go_wp2_with fail
            go_loopw [8] (fun s' wr => ∃ j : Nat, s' = .int .i64 j ∧ j ≤ 2 * n ∧ ∃ S'' : MS, Hid (S'' = pJ (2 * n) k i j S') ∧ Mx W wr W.heap.size b A' (2 * (n : Int)) c' S''.1 S''.2 none) (fun s _ => 2 * n - (intOf s).toNat)
            case atStart => exact ⟨0, rfl, by omega, S', Lib.hid rfl, hM'⟩
            case round =>
              obtain ⟨j, rfl, hj, Y, HY, hN⟩ := hrel
              clear hM'
              rcases Nat.lt_or_ge j (2 * n) with hjt | hjge
              · have HJ := Lib.hid (show pStep (2 * n) k i j Y = pJ (2 * n) k i (j + 1) S' by rw [HY.out]; rfl)
                have hl2 : Y.1.length = (2 * n) * (2 * n) := by rw [HY.out, pJ_len, HS'.out, pI_len, HS.out, pK_len]; exact HLm.out
                have hq : Y.1.length ≤ 16384 := by rw [hl2, sq2]; exact sq_le hn
                have hYB : allB Y.1 := by rw [HY.out, HS'.out, HS.out]; exact allB_pJ (allB_pI (allB_pK HB.out))
                have hp1 : i * (2 * n) + j < Y.1.length := by rw [hl2]; exact idx_lt hit hjt
                have hp2 : i * (2 * n) + k < Y.1.length := by rw [hl2]; exact idx_lt hit hkt
                have hp3 : k * (2 * n) + j < Y.1.length := by rw [hl2]; exact idx_lt hkt hjt
                obtain ⟨g, rfl, hg1, hg2⟩ := hN.blockOf (by omega)
                have v1 := fun (W' : World) (s' : Bool) (h : Mx W W' W.heap.size b (some ⟨g, 0, none⟩) (2 * (n : Int)) c' Y.1 s' none) => h.cellAt hp1
                have v2 := fun (W' : World) (s' : Bool) (h : Mx W W' W.heap.size b (some ⟨g, 0, none⟩) (2 * (n : Int)) c' Y.1 s' none) => h.cellAt hp2
                have v3 := fun (W' : World) (s' : Bool) (h : Mx W W' W.heap.size b (some ⟨g, 0, none⟩) (2 * (n : Int)) c' Y.1 s' none) => h.cellAt hp3
                have hSt : pStep (2 * n) k i j Y = (Y.1.set (i * (2 * n) + j) (less (nth Y.1 (i * (2 * n) + j)) (plus (nth Y.1 (i * (2 * n) + k)) (nth Y.1 (k * (2 * n) + j)))), Y.2 || sat (nth Y.1 (i * (2 * n) + k)) (nth Y.1 (k * (2 * n) + j))) := rfl
                rw [hSt, ← less_min (hYB _) (plus_bd _ _)] at HJ
                clear hSt hYB hl2
                have ei : (i : Int) * (2 * (n : Int)) = ((i * (2 * n) : Nat) : Int) := by push_cast; rfl
                have ek : (k : Int) * (2 * (n : Int)) = ((k * (2 * n) : Nat) : Int) := by push_cast; rfl
                generalize nth Y.1 (i * (2 * n) + j) = x1 at *
                generalize nth Y.1 (i * (2 * n) + k) = x2 at *
                generalize nth Y.1 (k * (2 * n) + j) = x3 at *
                generalize i * (2 * n) = pi at *
                generalize k * (2 * n) = pk at *
                have q1 : (pi : Int) + (j : Int) < (Y.1.length : Int) := by omega
                have q2 : (pi : Int) + (k : Int) < (Y.1.length : Int) := by omega
                have q3 : (pk : Int) + (j : Int) < (Y.1.length : Int) := by omega
                obtain ⟨T, hT⟩ : ∃ T : Bool → World → Prop, T = fun t W' => Mx W W' W.heap.size b (some ⟨g, 0, none⟩) (2 * (n : Int)) c' Y.1 (bif t then (Y.2 || sat x2 x3) else Y.2) none := ⟨_, rfl⟩
                have hT' : ∀ t W', T t W' ↔ Mx W W' W.heap.size b (some ⟨g, 0, none⟩) (2 * (n : Int)) c' Y.1 (bif t then (Y.2 || sat x2 x3) else Y.2) none := fun t W => by rw [hT]
                clear hT
                have l0 : ∀ x : TW T, x.w.cell? ⟨b, 1, none⟩ = some (.slice (some ⟨g, 0, none⟩) Y.1.length c') := fun x => ((hT' _ _).1 x.h).c1
                have l1 : ∀ x : TW T, x.w.cell? ⟨g, pi + j, none⟩ = some (.int .i64 x1) := fun x => v1 _ _ ((hT' _ _).1 x.h)
                have l2 : ∀ x : TW T, x.w.cell? ⟨g, pi + k, none⟩ = some (.int .i64 x2) := fun x => v2 _ _ ((hT' _ _).1 x.h)
                have l3 : ∀ x : TW T, x.w.cell? ⟨g, pk + j, none⟩ = some (.int .i64 x3) := fun x => v3 _ _ ((hT' _ _).1 x.h)
                go_wp2_with fail
                haveI : Nonempty (TW T) := ⟨⟨false, wr, (hT' _ _).2 hN⟩⟩
                refine wp_region_turn T 43 45 (by kernel_rfl) (by kernel_rfl) ((hT' _ _).2 (hN.go (Below.refl _ _).drew)) ?_
                simp only [List.take_succ_cons, List.take_zero, List.drop_succ_cons, List.drop_zero]
                iterate 43 (first | (refine wpT_plain (by decide) (by rfl) rfl ?_; intro K hK; go_big_quiet_op; go_big_quiet_on) | (refine wpT_check (by decide) (by rfl) rfl rfl ?_; intro K hK; go_big_quiet_op; go_big_quiet_on) | (refine wpT_skip (by decide) (by rfl) ?_; intro K hK; go_big_quiet_op; go_big_quiet_on))
                refine wpT_call 75 #[.pointer (some ⟨b, 0, none⟩), .int .i64 x2, .int .i64 x3] (.int .i64 (plus x2 x3)) (by kernel_rfl) (fun w => by kernel_rfl) ?_ ?_
                · intro t W' hW
                  have hW := (hT' _ _).1 hW
                  refine (mx_plus hW x2 x3).mono ?_
                  rintro r W'' ⟨rfl, hW'⟩
                  refine ⟨rfl, (hT' _ _).2 ?_⟩
                  rw [show (t || decide (43 = 43)) = true by simp]
                  cases t
                  · exact hW'
                  · rw [show ((bif true then (Y.2 || sat x2 x3) else Y.2) || sat x2 x3) = (Y.2 || sat x2 x3) by cases Y.2 <;> cases sat x2 x3 <;> rfl] at hW'
                    exact hW'
                (intro K hK; go_big_quiet_op; go_big_quiet_on)
                refine wpT_value (.int .i64 (if plus x2 x3 < x1 then plus x2 x3 else x1)) (by decide) (by kernel_rfl) (fun w => by kernel_rfl) ?_
                (intro K hK; go_big_quiet_op; go_big_quiet_on)
                refine wpT_nil ?_
                intro w5 hw5
                have hN5 := (hT' _ _).1 hw5
                have k1 := v1 _ _ hN5
                have kf := hN5.frozenAt (pi + j)
                have hN6 := hN5.put (pi + j) (if plus x2 x3 < x1 then plus x2 x3 else x1) hg1
                clear hN5 hw5 hN l0 l1 l2 l3 v1 v2 v3 hT'
                rw [show (bif true then (Y.2 || sat x2 x3) else Y.2) = (Y.2 || sat x2 x3) from rfl] at hN6
                generalize (if plus x2 x3 < x1 then plus x2 x3 else x1) = x4 at *
                generalize (Y.2 || sat x2 x3) = s4 at *
                go_wp2_with fail
                refine mixQ_normal ?_
                go_wp2_with fail
                go_roundw
                case rel => exact ⟨j + 1, by go_num, by omega, (Y.1.set (pi + j) x4, s4), Lib.hid HJ.out, hN6⟩
                case measure => simp [intOf]; omega
              · obtain rfl : j = 2 * n := by omega
                go_wp2_with fail
                go_roundw
                case rel => exact ⟨i + 1, by go_num, by omega, Y, Lib.hid (by rw [HY.out, HS'.out]; rfl), hN⟩
                case measure => simp [intOf]; omega
          · obtain rfl : i = 2 * n := by omega
            go_wp2_with fail
            go_roundw
            case rel => exact ⟨k + 1, by go_num, by omega, S', Lib.hid (by rw [HS'.out, HS.out]; rfl), hM'⟩
            case measure => simp [intOf]; omega
      · have hk' : k = 2 * n := by omega
        have dk : decide ((k : Int) < 2 * (n : Int)) = false := decide_eq_false (by omega)
        have HP := Lib.hid (show S = paths (2 * n) (M, false) by rw [HS.out, hk']; rfl)
        clear HS hk'
        go_wp2_with fail
        go_loopw [9] (fun s' wr => ∃ i : Nat, s' = .int .i64 i ∧ i ≤ 2 * n ∧ ∃ Z : List Int, Hid (Z = mI (2 * n) i S.1) ∧ Mx W wr W.heap.size b A' (2 * (n : Int)) c' Z S.2 none) (fun s _ => 2 * n - (intOf s).toNat)
        case atStart => exact ⟨0, rfl, by omega, S.1, Lib.hid rfl, hM⟩
        case round =>
          obtain ⟨i, rfl, hi, Z, HZ, hM'⟩ := hrel
          clear hM
          rcases Nat.lt_or_ge i (2 * n) with hit | hige
          · have di : decide ((i : Int) < 2 * (n : Int)) = true := decide_eq_true (by omega)
            go_wp2_with fail
            go_loopw [10] (fun s' wr => ∃ j : Nat, s' = .int .i64 j ∧ j ≤ 2 * n ∧ ∃ Y : List Int, Hid (Y = mJ (2 * n) i j Z) ∧ Mx W wr W.heap.size b A' (2 * (n : Int)) c' Y S.2 none) (fun s _ => 2 * n - (intOf s).toNat)
            case atStart => exact ⟨0, rfl, by omega, Z, Lib.hid rfl, hM'⟩
            case round =>
              obtain ⟨j, rfl, hj, Y, HY, hN⟩ := hrel
              clear hM'
              rcases Nat.lt_or_ge j (2 * n) with hjt | hjge
              · have hai := ac_lt hit
                have haj := ac_lt hjt
                have hSt : mJ (2 * n) i (j + 1) Z = mStep (2 * n) i j Y := by rw [HY.out]; rfl
                unfold mStep at hSt
                have hl2 : Y.length = (2 * n) * (2 * n) := by rw [HY.out, mJ_len, HZ.out, mI_len, HP.out]; exact (pK_len _ _ _).trans HLm.out
                have hq : Y.length ≤ 16384 := by rw [hl2, sq2]; exact sq_le hn
                have hYB : allB Y := by rw [HY.out, HZ.out, HP.out]; exact allB_mJ (allB_mI (allB_pK HB.out))
                have hp1 : i * (2 * n) + j < Y.length := by rw [hl2]; exact idx_lt hit hjt
                have hp2 : ac j * (2 * n) + ac i < Y.length := by rw [hl2]; exact idx_lt haj hai
                obtain ⟨g, rfl, hg1, hg2⟩ := hN.blockOf (by omega)
                have V1 := fun (W' : World) (h : Mx W W' W.heap.size b (some ⟨g, 0, none⟩) (2 * (n : Int)) c' Y S.2 none) => h.cellAt hp1
                have V2 := fun (W' : World) (h : Mx W W' W.heap.size b (some ⟨g, 0, none⟩) (2 * (n : Int)) c' Y S.2 none) => h.cellAt hp2
                have cAi := fun W => ref_Across i W (by omega)
                have cAj := fun W => ref_Across j W (by omega)
                have ei : (i : Int) * (2 * (n : Int)) = ((i * (2 * n) : Nat) : Int) := by push_cast; rfl
                have ek : ((ac j : Nat) : Int) * (2 * (n : Int)) = ((ac j * (2 * n) : Nat) : Int) := by push_cast; rfl
                rw [← less_min (hYB _) (hYB _)] at hSt
                clear hYB hl2
                generalize hx4 : (if nth Y (ac j * (2 * n) + ac i) < nth Y (i * (2 * n) + j) then nth Y (ac j * (2 * n) + ac i) else nth Y (i * (2 * n) + j)) = x4 at *
                generalize nth Y (i * (2 * n) + j) = x1 at *
                generalize nth Y (ac j * (2 * n) + ac i) = x2 at *
                generalize i * (2 * n) = pi at *
                generalize ac j * (2 * n) = pj at *
                generalize ac i = ai at *
                generalize ac j = aj at *
                obtain ⟨U, hU⟩ : ∃ U, U = Y.set (pi + j) x4 := ⟨_, rfl⟩
                have hUl : U.length = Y.length := by rw [hU, List.length_set]
                have hU1 : nth U (pi + j) = x4 := by rw [hU]; exact nth_set_same hp1
                rw [← hU, hU1] at hSt
                have HJ := Lib.hid hSt
                have HU := Lib.hid hU
                have HU1 := Lib.hid hU1
                have HUl := Lib.hid hUl
                have Hp1 := Lib.hid hp1
                have Hp2 := Lib.hid hp2
                have q1 : (pi : Int) + (j : Int) < (Y.length : Int) := by omega
                have q2 : (pj : Int) + (ai : Int) < (Y.length : Int) := by omega
                clear hSt hU hU1 hUl
                go_wp2_with (first | (go_at_call 53; with_reducible refine (cAj _).mono ?_; rintro r w3 ⟨rfl, rfl⟩) | (go_at_call 53; with_reducible refine (cAi _).mono ?_; rintro r w3 ⟨rfl, rfl⟩))
                have a0 := After.cell hN.c1
                have a1 := After.cell (V1 _ hN)
                have a2 := After.cell (V2 _ hN)
                refine wp_region_mix [(28, 2)] (by kernel_rfl) (by kernel_rfl) ?_
                simp only [wpMix, List.take_succ_cons, List.take_zero, List.drop_succ_cons, List.drop_zero]
                repeat (go_big_quiet_step (fail))
                refine wpQuiet_nil ?_
                intro w6 hb6
                have hN6 := hN.go hb6
                have k1 := V1 _ hN6
                have kf := hN6.frozenAt (pi + j)
                have hP := hN6.put (pi + j) x4 hg1
                rw [← HU.out] at hP
                clear hN hN6 hb6 a0 a1 a2
                go_wp2_with fail
                refine mixQ_normal (wpQuiet_nil ?_)
                intro w7 hb7
                have hN7 := hP.go hb7
                clear hP hb7 k1 kf
                have k1 := hN7.cellAt (p := pi + j) (by rw [HUl.out]; exact Hp1.out)
                rw [HU1.out] at k1
                go_wp2_with fail
                have a0 := After.cell hN7.c1
                have a1 := After.cell k1
                have hUl := HUl.out
                rw [hUl] at a0
                refine wp_region_mix [(16, 2)] (by kernel_rfl) (by kernel_rfl) ?_
                simp only [wpMix, List.take_succ_cons, List.take_zero, List.drop_succ_cons, List.drop_zero]
                repeat (go_big_quiet_step (fail))
                refine wpQuiet_nil ?_
                intro w8 hb8
                have hN8 := hN7.go hb8
                have k2 := hN8.cellAt (p := pj + ai) (by rw [HUl.out]; exact Hp2.out)
                have kf := hN8.frozenAt (pj + ai)
                have hP := Lib.hid (hN8.put (pj + ai) x4 hg1)
                clear hN7 hN8 hb8 a0 a1 k1 hUl
                go_wp2_with fail
                refine mixQ_normal (wpQuiet_nil ?_)
                intro w9 hb9
                have hN9 := hP.out.go hb9
                clear hP hb9 k2 kf
                go_wp2_with fail
                go_roundw
                case rel => exact ⟨j + 1, by go_num, by omega, _, Lib.hid HJ.out.symm, hN9⟩
                case measure => simp [intOf]; omega
              · obtain rfl : j = 2 * n := by omega
                go_wp2_with fail
                go_roundw
                case rel => exact ⟨i + 1, by go_num, by omega, Y, Lib.hid (by rw [HY.out, HZ.out]; rfl), hN⟩
                case measure => simp [intOf]; omega
          · have hi' : i = 2 * n := by omega
            have di : decide ((i : Int) < 2 * (n : Int)) = false := decide_eq_false (by omega)
            have HX := Lib.hid (show Z = mirrors (2 * n) S.1 by rw [HZ.out, hi']; rfl)
            clear HZ hi'
            go_wp2_with fail
            have hZl : Z.length = (2 * n) * (2 * n) := by rw [HX.out, HP.out]; exact (mI_len _ _ _).trans ((pK_len _ _ _).trans HLm.out)
            have hZB : allB Z := by rw [HX.out, HP.out]; exact allB_mI (allB_pK HB.out)
            have HZl := Lib.hid hZl
            have HZB := Lib.hid hZB
            clear hZl hZB di dk
            go_loopw [12] (fun s' wr => ∃ q : Nat, s' = .int .i64 q ∧ q ≤ 2 * n ∧ Hid (loopI (2 * n) Z q false = false) ∧ Mx W wr W.heap.size b A' (2 * (n : Int)) c' Z S.2 none) (fun s _ => 2 * n - (intOf s).toNat)
            case atStart => exact ⟨0, rfl, by omega, Lib.hid rfl, hM'⟩
            case round =>
              obtain ⟨q, rfl, hq, HQ, hN⟩ := hrel
              clear hM'
              rcases Nat.lt_or_ge q (2 * n) with hqt | hqge
              · have hp : q * (2 * n) + q < Z.length := by rw [HZl.out]; exact idx_lt hqt hqt
                have hSt : loopI (2 * n) Z (q + 1) false = decide (nth Z (q * (2 * n) + q) < 0) := by
                  show (loopI (2 * n) Z q false || _) = _
                  rw [HQ.out, Bool.false_or]
                have hq2 : Z.length ≤ 16384 := by rw [HZl.out, sq2]; exact sq_le hn
                obtain ⟨g, rfl, hg1, hg2⟩ := hN.blockOf (by omega)
                have k0 := hN.c1
                have k1 := hN.cellAt hp
                have ei : (q : Int) * (2 * (n : Int)) = ((q * (2 * n) : Nat) : Int) := by push_cast; rfl
                have HO1 := Lib.hid (fun (h : nth Z (q * (2 * n) + q) < 0) => (loops_iff.2 ⟨q, hqt, h⟩ : loops (2 * n) Z = true))
                have HJ := Lib.hid hSt
                clear hSt
                generalize nth Z (q * (2 * n) + q) = x1 at *
                generalize q * (2 * n) = pq at *
                have q1 : (pq : Int) + (q : Int) < (Z.length : Int) := by omega
                by_cases hx : x1 < 0
                · have hd : decide (x1 < 0) = true := decide_eq_true hx
                  have HF : Hid (ofP n false M = (((n : Int), true, []), S.2)) := Lib.hid (by
                    have hcm := closeM_loops (m := 2 * n) (M := M) (by show loops (2 * n) (mirrors (2 * n) (paths (2 * n) (M, false)).1) = true; rw [← HP.out, ← HX.out]; exact HO1.out hx)
                    unfold ofP closeP
                    rw [HC.out, if_neg (by simp), if_neg (by simp)]
                    simp only [Int.toNat_natCast]
                    rw [hcm]
                    show ((((n : Int), true, []), (paths (2 * n) (M, false)).2) : (Int × Bool × List Int) × Bool) = _
                    rw [← HP.out])
                  have cE := fun W => ref_Empty n W
                  obtain ⟨m0, m1, m2, r0, r1, r2, fc, fr, hB5, hl5⟩ := hR.go hN.below
                  have q2 := hN.c2
                  have hbl := hN.hb
                  have hbL := hN.lt
                  have hwl := hR.lt
                  have hRr := hR.go hN.below
                  have hne1 : ¬ (b = w.heap.size + 1) := by omega
                  have hne2 : ¬ (w.heap.size + 1 = b) := by omega
                  clear HJ HO1 m1 m2 hN
                  generalize S.2 = sv at *
                  go_wp2_with fail
                  go_region_held3 (fun X => X.cell? ⟨w.heap.size, 0, none⟩ = some (.int .i64 n) ∧ X.cell? ⟨b, 2, none⟩ = some (.bool sv)) (first | exact ⟨m0, q2⟩ | exact ⟨c0, c1⟩ | go_keep) ((go_at_call 45; refine (cE _).mono ?_; rintro e w8 ⟨rfl, hb8⟩; have hb9 := (Below.refl wr.heap.size wr).drew.trans hb8; have c1 := below_cell hb9 q2; obtain ⟨c0, _, _, r0, r1, r2, fc, fr, hB, hl⟩ := hRr.go hb9))
                  go_wp2_with fail
                  refine bodyPost_ret (v := .tuple #[.agg #[.int .i64 n, .bool true, .slice none 0 0], .bool sv]) (by simp [results, Try.results57, go_sem, r0, r1, r2]) rfl (tellsOf HF.out rfl rfl (Ow.nil _ _ _ _) ?_)
                  exact ((hB.setCell (by simp) _).setCell (by simp) _).setCell (by simp) _
                · have hd : decide (x1 < 0) = false := decide_eq_false hx
                  rw [hd] at HJ
                  go_wp2_with fail
                  go_roundw
                  case rel => exact ⟨q + 1, by go_num, by omega, Lib.hid HJ.out, hN⟩
                  case measure => simp [intOf]; omega
              · have hq' : q = 2 * n := by omega
                have dq : decide ((q : Int) < 2 * (n : Int)) = false := decide_eq_false (by omega)
                have HO := Lib.hid (show loops (2 * n) Z = false by rw [← HQ.out, hq']; rfl)
                clear HQ hq'
                go_wp2_with fail
                clear dq
                go_loopw [13] (fun s' wr => ∃ i : Nat, s' = .int .i64 i ∧ i ≤ 2 * n ∧ ∃ Y : List Int, Hid (Y = eI (2 * n) i Z) ∧ Mx W wr W.heap.size b A' (2 * (n : Int)) c' Y S.2 none) (fun s _ => 2 * n - (intOf s).toNat)
                case atStart => exact ⟨0, rfl, by omega, Z, Lib.hid rfl, hN⟩
                case round =>
                  obtain ⟨i, rfl, hi, Y, HY, hM⟩ := hrel
                  clear hN
                  rcases Nat.lt_or_ge i (2 * n) with hit | hige
                  · have hai := ac_lt hit
                    have hl2 : Y.length = (2 * n) * (2 * n) := by rw [HY.out, eI_len]; exact HZl.out
                    have hq2 : Y.length ≤ 16384 := by rw [hl2, sq2]; exact sq_le hn
                    have hp : i * (2 * n) + ac i < Y.length := by rw [hl2]; exact idx_lt hit hai
                    have hSt : eI (2 * n) (i + 1) Z = Y.set (i * (2 * n) + ac i) (even (nth Y (i * (2 * n) + ac i))) := by rw [HY.out]; rfl
                    obtain ⟨g, rfl, hg1, hg2⟩ := hM.blockOf (by omega)
                    have V1 := fun (W' : World) (h : Mx W W' W.heap.size b (some ⟨g, 0, none⟩) (2 * (n : Int)) c' Y S.2 none) => h.cellAt hp
                    have cA := fun W => ref_Across i W (by omega)
                    have cE := fun W => ref_Even (nth Y (i * (2 * n) + ac i)) W
                    have ei : (i : Int) * (2 * (n : Int)) = ((i * (2 * n) : Nat) : Int) := by push_cast; rfl
                    have HJ := Lib.hid hSt
                    clear hSt hl2
                    generalize even (nth Y (i * (2 * n) + ac i)) = y at *
                    generalize nth Y (i * (2 * n) + ac i) = x1 at *
                    generalize i * (2 * n) = pi at *
                    generalize ac i = ai at *
                    have q1 : (pi : Int) + (ai : Int) < (Y.length : Int) := by omega
                    go_wp2_with (go_at_call 53; with_reducible refine (cA _).mono ?_; rintro r w3 ⟨rfl, rfl⟩)
                    have a0 := After.cell hM.c1
                    have a1 := After.cell (V1 _ hM)
                    refine wp_region_mix [(13, 2)] (by kernel_rfl) (by kernel_rfl) ?_
                    simp only [wpMix, List.take_succ_cons, List.take_zero, List.drop_succ_cons, List.drop_zero]
                    repeat (go_big_quiet_step ((go_at_call 76; with_reducible exact after_same (cE _))))
                    refine wpQuiet_nil ?_
                    intro w6 hb6
                    have hN6 := hM.go hb6
                    have k1 := V1 _ hN6
                    have kf := hN6.frozenAt (pi + ai)
                    have hP := Lib.hid (hN6.put (pi + ai) y hg1)
                    clear hM hN6 hb6 a0 a1
                    go_wp2_with fail
                    refine mixQ_normal (wpQuiet_nil ?_)
                    intro w7 hb7
                    have hN7 := hP.out.go hb7
                    clear hP hb7 k1 kf
                    go_wp2_with fail
                    go_roundw
                    case rel => exact ⟨i + 1, by go_num, by omega, _, Lib.hid HJ.out.symm, hN7⟩
                    case measure => simp [intOf]; omega
                  · have hi' : i = 2 * n := by omega
                    have di : decide ((i : Int) < 2 * (n : Int)) = false := decide_eq_false (by omega)
                    have HV := Lib.hid (show Y = evens (2 * n) Z by rw [HY.out, hi']; rfl)
                    clear HY hi'
                    go_wp2_with fail
                    clear di
                    have HYl := Lib.hid (show Y.length = (2 * n) * (2 * n) by rw [HV.out]; exact (eI_len _ _ _).trans HZl.out)
                    go_loopw [15, 16] (fun e' s' wr => ∃ i : Nat, s' = .int .i64 i ∧ i ≤ 2 * n ∧ ∃ D : Bool × Bool, e' = .bool D.1 ∧ Hid (D = sI (2 * n) Y i (false, S.2)) ∧ Mx W wr W.heap.size b A' (2 * (n : Int)) c' Y D.2 none) (fun e s _ => 2 * n - (intOf s).toNat)
                    case atStart => exact ⟨0, rfl, by omega, (false, S.2), rfl, Lib.hid rfl, hM⟩
                    case round =>
                      obtain ⟨i, rfl, hi, D, rfl, HD, hN⟩ := hrel
                      clear hM
                      obtain ⟨e0, s0⟩ := D
                      rcases Nat.lt_or_ge i (2 * n) with hit | hige
                      · have hai := ac_lt hit
                        have hSt : sI (2 * n) Y (i + 1) (false, S.2) = sStep (2 * n) Y i (e0, s0) := by rw [HD.out]; rfl
                        unfold sStep at hSt
                        have hq2 : Y.length ≤ 16384 := by rw [HYl.out, sq2]; exact sq_le hn
                        have hp2 : i * (2 * n) + ac i < Y.length := by rw [HYl.out]; exact idx_lt hit hai
                        have hp3 : ac i * (2 * n) + i < Y.length := by rw [HYl.out]; exact idx_lt hai hit
                        obtain ⟨g, rfl, hg1, hg2⟩ := hN.blockOf (by omega)
                        have v2 := fun (W' : World) (s' : Bool) (h : Mx W W' W.heap.size b (some ⟨g, 0, none⟩) (2 * (n : Int)) c' Y s' none) => h.cellAt hp2
                        have v3 := fun (W' : World) (s' : Bool) (h : Mx W W' W.heap.size b (some ⟨g, 0, none⟩) (2 * (n : Int)) c' Y s' none) => h.cellAt hp3
                        have cA := fun W => ref_Across i W (by omega)
                        have ei : (i : Int) * (2 * (n : Int)) = ((i * (2 * n) : Nat) : Int) := by push_cast; rfl
                        have ek : ((ac i : Nat) : Int) * (2 * (n : Int)) = ((ac i * (2 * n) : Nat) : Int) := by push_cast; rfl
                        have HJ := Lib.hid hSt
                        clear hSt HD
                        generalize nth Y (i * (2 * n) + ac i) = x2 at *
                        generalize nth Y (ac i * (2 * n) + i) = x3 at *
                        generalize i * (2 * n) = pi at *
                        generalize ac i * (2 * n) = pa at *
                        generalize ac i = ai at *
                        have q2 : (pi : Int) + (ai : Int) < (Y.length : Int) := by omega
                        have q3 : (pa : Int) + (i : Int) < (Y.length : Int) := by omega
                        go_wp2_with (go_at_call 53; with_reducible refine (cA _).mono ?_; rintro r w3 ⟨rfl, rfl⟩)
                        obtain ⟨T, hT⟩ : ∃ T : Bool → World → Prop, T = fun t W' => Mx W W' W.heap.size b (some ⟨g, 0, none⟩) (2 * (n : Int)) c' Y (bif t then (s0 || sat x2 x3) else s0) none := ⟨_, rfl⟩
                        have hT' : ∀ t W', T t W' ↔ Mx W W' W.heap.size b (some ⟨g, 0, none⟩) (2 * (n : Int)) c' Y (bif t then (s0 || sat x2 x3) else s0) none := fun t W => by rw [hT]
                        clear hT
                        have l0 : ∀ x : TW T, x.w.cell? ⟨b, 1, none⟩ = some (.slice (some ⟨g, 0, none⟩) Y.length c') := fun x => ((hT' _ _).1 x.h).c1
                        have l2 : ∀ x : TW T, x.w.cell? ⟨g, pi + ai, none⟩ = some (.int .i64 x2) := fun x => v2 _ _ ((hT' _ _).1 x.h)
                        have l3 : ∀ x : TW T, x.w.cell? ⟨g, pa + i, none⟩ = some (.int .i64 x3) := fun x => v3 _ _ ((hT' _ _).1 x.h)
                        haveI : Nonempty (TW T) := ⟨⟨false, wr, (hT' _ _).2 hN⟩⟩
                        by_cases hx : plus x2 x3 < 0
                        all_goals
                          first
                            | (have hd : decide (plus x2 x3 < 0) = true := decide_eq_true hx)
                            | (have hd : decide (plus x2 x3 < 0) = false := decide_eq_false hx)
                          rw [hd] at HJ
                          refine wp_region_turn T 23 28 (by kernel_rfl) (by kernel_rfl) ((hT' _ _).2 (hN.go (Below.refl _ _).drew)) ?_
                          simp only [List.take_succ_cons, List.take_zero, List.drop_succ_cons, List.drop_zero]
                          iterate 23 (first | (refine wpT_plain (by decide) (by rfl) rfl ?_; intro K hK; go_big_quiet_op; go_big_quiet_on) | (refine wpT_check (by decide) (by rfl) rfl rfl ?_; intro K hK; go_big_quiet_op; go_big_quiet_on) | (refine wpT_skip (by decide) (by rfl) ?_; intro K hK; go_big_quiet_op; go_big_quiet_on))
                          refine wpT_call 75 #[.pointer (some ⟨b, 0, none⟩), .int .i64 x2, .int .i64 x3] (.int .i64 (plus x2 x3)) (by kernel_rfl) (fun w => by kernel_rfl) ?_ ?_
                          · intro t W' hW
                            have hW := (hT' _ _).1 hW
                            refine (mx_plus hW x2 x3).mono ?_
                            rintro r W'' ⟨rfl, hW'⟩
                            refine ⟨rfl, (hT' _ _).2 ?_⟩
                            rw [show (t || decide (23 = 23)) = true by simp]
                            cases t
                            · exact hW'
                            · rw [show ((bif true then (s0 || sat x2 x3) else s0) || sat x2 x3) = (s0 || sat x2 x3) by cases s0 <;> cases sat x2 x3 <;> rfl] at hW'
                              exact hW'
                          (intro K hK; go_big_quiet_op; go_big_quiet_on)
                          iterate 4 (first | (refine wpT_plain (by decide) (by rfl) rfl ?_; intro K hK; go_big_quiet_op; go_big_quiet_on) | (refine wpT_check (by decide) (by rfl) rfl rfl ?_; intro K hK; go_big_quiet_op; go_big_quiet_on) | (refine wpT_skip (by decide) (by rfl) ?_; intro K hK; go_big_quiet_op; go_big_quiet_on))
                          refine wpT_nil ?_
                          intro w5 hw5
                          have hN5 := (hT' _ _).1 hw5
                          rw [show (bif true then (s0 || sat x2 x3) else s0) = (s0 || sat x2 x3) from rfl] at hN5
                          clear hw5 hN l0 l2 l3 v2 v3 hT' cA
                          generalize (s0 || sat x2 x3) = s4 at *
                          go_wp2_with fail
                          refine mixQ_normal ?_
                          go_wp2_with fail
                          go_roundw
                          case rel => exact ⟨i + 1, by go_num, by omega, (_, s4), rfl, Lib.hid HJ.out.symm, hN5⟩
                          case measure => simp [intOf]; omega
                      · have hi' : i = 2 * n := by omega
                        have di : decide ((i : Int) < 2 * (n : Int)) = false := decide_eq_false (by omega)
                        have HW := Lib.hid (show (e0, s0) = sides (2 * n) Y S.2 by rw [HD.out, hi']; rfl)
                        clear HD hi'
                        have HA := Lib.hid (show clSt (2 * n) M 4 = (Y, S.2) by show (evens (2 * n) (mirrors (2 * n) (paths (2 * n) (M, false)).1), (paths (2 * n) (M, false)).2) = (Y, S.2); rw [← HP.out, ← HX.out, ← HV.out])
                        have HO2 := Lib.hid (show loops (2 * n) (clSt (2 * n) M 2).1 = false by show loops (2 * n) (mirrors (2 * n) (paths (2 * n) (M, false)).1) = false; rw [← HP.out, ← HX.out]; exact HO.out)
                        have hbl := hN.hb
                        have hbL := hN.lt
                        have hwl := hR.lt
                        have hne1 : ¬ (b = w.heap.size + 1) := by omega
                        have hne2 : ¬ (w.heap.size + 1 = b) := by omega
                        rcases e0 with _ | _
                        · have HW2 := Lib.hid (show (sides (2 * n) (clSt (2 * n) M 4).1 (clSt (2 * n) M 4).2).1 = false by rw [HA.out, ← HW.out])
                          clear hne1 hne2 hbl hbL hwl
                          go_wp2_with fail
                          clear di
                          go_loopw [18] (fun s' wr => ∃ i : Nat, s' = .int .i64 i ∧ i ≤ 2 * n ∧ ∃ S' : MS, Hid (S' = tI (2 * n) i (Y, s0)) ∧ Mx W wr W.heap.size b A' (2 * (n : Int)) c' S'.1 S'.2 none) (fun s _ => 2 * n - (intOf s).toNat)
                          case atStart => exact ⟨0, rfl, by omega, (Y, s0), Lib.hid rfl, hN⟩
                          case round =>
                            obtain ⟨i, rfl, hi, S', HS', hM'⟩ := hrel
                            clear hN
                            rcases Nat.lt_or_ge i (2 * n) with hit | hige
                            · have di : decide ((i : Int) < 2 * (n : Int)) = true := decide_eq_true (by omega)
                              go_wp2_with fail
                              go_loopw [19] (fun s' wr => ∃ j : Nat, s' = .int .i64 j ∧ j ≤ 2 * n ∧ ∃ S'' : MS, Hid (S'' = tJ (2 * n) i j S') ∧ Mx W wr W.heap.size b A' (2 * (n : Int)) c' S''.1 S''.2 none) (fun s _ => 2 * n - (intOf s).toNat)
                              case atStart => exact ⟨0, rfl, by omega, S', Lib.hid rfl, hM'⟩
                              case round =>
                                obtain ⟨j, rfl, hj, V, HVV, hN⟩ := hrel
                                clear hM'
                                rcases Nat.lt_or_ge j (2 * n) with hjt | hjge
                                · have dj : decide ((j : Int) < 2 * (n : Int)) = true := decide_eq_true (by omega)
                                  have HJ0 := Lib.hid (show tStep (2 * n) i j V = tJ (2 * n) i (j + 1) S' by rw [HVV.out]; rfl)
                                  by_cases hij : i = j
                                  · have hji : ((i : Int) != (j : Int)) = false := bne_eq_false_iff_eq.2 (by omega)
                                    have HJ := Lib.hid (show V = tJ (2 * n) i (j + 1) S' by rw [← HJ0.out]; unfold tStep; rw [if_pos hij])
                                    clear HJ0 hij
                                    go_wp2_with fail
                                    go_roundw
                                    case rel => exact ⟨j + 1, by go_num, by omega, V, Lib.hid HJ.out, hN⟩
                                    case measure => simp [intOf]; omega
                                  · have hji : ((i : Int) != (j : Int)) = true := bne_iff_ne.2 (by omega)
                                    have hai := ac_lt hit
                                    have haj := ac_lt hjt
                                    have hSt : tJ (2 * n) i (j + 1) S' = (V.1.set (i * (2 * n) + j) (less (nth V.1 (i * (2 * n) + j)) (half (plus (nth V.1 (i * (2 * n) + ac i)) (nth V.1 (ac j * (2 * n) + j))))), V.2 || sat (nth V.1 (i * (2 * n) + ac i)) (nth V.1 (ac j * (2 * n) + j))) := by
                                      rw [← HJ0.out]; unfold tStep; rw [if_neg hij]
                                    clear hij HJ0
                                    have hl2 : V.1.length = (2 * n) * (2 * n) := by rw [HVV.out, tJ_len, HS'.out, tI_len]; exact HYl.out
                                    have hq2 : V.1.length ≤ 16384 := by rw [hl2, sq2]; exact sq_le hn
                                    have hVB : allB V.1 := by rw [HVV.out, HS'.out]; exact allB_tJ (allB_tI (by rw [HV.out]; exact allB_eI HZB.out))
                                    have hp1 : i * (2 * n) + j < V.1.length := by rw [hl2]; exact idx_lt hit hjt
                                    have hp2 : i * (2 * n) + ac i < V.1.length := by rw [hl2]; exact idx_lt hit hai
                                    have hp3 : ac j * (2 * n) + j < V.1.length := by rw [hl2]; exact idx_lt haj hjt
                                    obtain ⟨g, rfl, hg1, hg2⟩ := hN.blockOf (by omega)
                                    have v1 := fun (W' : World) (s' : Bool) (h : Mx W W' W.heap.size b (some ⟨g, 0, none⟩) (2 * (n : Int)) c' V.1 s' none) => h.cellAt hp1
                                    have v2 := fun (W' : World) (s' : Bool) (h : Mx W W' W.heap.size b (some ⟨g, 0, none⟩) (2 * (n : Int)) c' V.1 s' none) => h.cellAt hp2
                                    have v3 := fun (W' : World) (s' : Bool) (h : Mx W W' W.heap.size b (some ⟨g, 0, none⟩) (2 * (n : Int)) c' V.1 s' none) => h.cellAt hp3
                                    have cAi := fun W => ref_Across i W (by omega)
                                    have cAj := fun W => ref_Across j W (by omega)
                                    have cH := fun W => ref_Half (plus (nth V.1 (i * (2 * n) + ac i)) (nth V.1 (ac j * (2 * n) + j))) W
                                    have ei : (i : Int) * (2 * (n : Int)) = ((i * (2 * n) : Nat) : Int) := by push_cast; rfl
                                    have ek : ((ac j : Nat) : Int) * (2 * (n : Int)) = ((ac j * (2 * n) : Nat) : Int) := by push_cast; rfl
                                    rw [← less_min (hVB _) (half_bd _)] at hSt
                                    clear hVB hl2
                                    generalize nth V.1 (i * (2 * n) + j) = x1 at *
                                    generalize nth V.1 (i * (2 * n) + ac i) = x2 at *
                                    generalize nth V.1 (ac j * (2 * n) + j) = x3 at *
                                    generalize i * (2 * n) = pi at *
                                    generalize ac j * (2 * n) = pj at *
                                    generalize ac i = ai at *
                                    generalize ac j = aj at *
                                    have q1 : (pi : Int) + (j : Int) < (V.1.length : Int) := by omega
                                    have q2 : (pi : Int) + (ai : Int) < (V.1.length : Int) := by omega
                                    have q3 : (pj : Int) + (j : Int) < (V.1.length : Int) := by omega
                                    have HJ := Lib.hid hSt
                                    clear hSt
                                    obtain ⟨T, hT⟩ : ∃ T : Bool → World → Prop, T = fun t W' => Mx W W' W.heap.size b (some ⟨g, 0, none⟩) (2 * (n : Int)) c' V.1 (bif t then (V.2 || sat x2 x3) else V.2) none := ⟨_, rfl⟩
                                    have hT' : ∀ t W', T t W' ↔ Mx W W' W.heap.size b (some ⟨g, 0, none⟩) (2 * (n : Int)) c' V.1 (bif t then (V.2 || sat x2 x3) else V.2) none := fun t W => by rw [hT]
                                    clear hT
                                    have l0 : ∀ x : TW T, x.w.cell? ⟨b, 1, none⟩ = some (.slice (some ⟨g, 0, none⟩) V.1.length c') := fun x => ((hT' _ _).1 x.h).c1
                                    have l2 : ∀ x : TW T, x.w.cell? ⟨g, pi + ai, none⟩ = some (.int .i64 x2) := fun x => v2 _ _ ((hT' _ _).1 x.h)
                                    have l3 : ∀ x : TW T, x.w.cell? ⟨g, pj + j, none⟩ = some (.int .i64 x3) := fun x => v3 _ _ ((hT' _ _).1 x.h)
                                    go_wp2_with fail
                                    haveI : Nonempty (TW T) := ⟨⟨false, wr, (hT' _ _).2 hN⟩⟩
                                    refine wp_region_turn T 25 26 (by kernel_rfl) (by kernel_rfl) ((hT' _ _).2 (hN.go (Below.refl _ _).drew)) ?_
                                    simp only [List.take_succ_cons, List.take_zero, List.drop_succ_cons, List.drop_zero]
                                    iterate 9 (first | (refine wpT_plain (by decide) (by rfl) rfl ?_; intro K hK; go_big_quiet_op; go_big_quiet_on) | (refine wpT_check (by decide) (by rfl) rfl rfl ?_; intro K hK; go_big_quiet_op; go_big_quiet_on) | (refine wpT_skip (by decide) (by rfl) ?_; intro K hK; go_big_quiet_op; go_big_quiet_on))
                                    refine wpT_call 53 #[.int .i64 i] (.int .i64 ai) (by kernel_rfl) (fun w => by kernel_rfl) ?_ ?_
                                    · intro t W' hW
                                      refine (cAi W').mono ?_
                                      rintro r W'' ⟨rfl, rfl⟩
                                      refine ⟨rfl, ?_⟩
                                      rw [show (t || decide (9 = 25)) = t by simp]
                                      exact hW
                                    (intro K hK; go_big_quiet_op; go_big_quiet_on)
                                    iterate 8 (first | (refine wpT_plain (by decide) (by rfl) rfl ?_; intro K hK; go_big_quiet_op; go_big_quiet_on) | (refine wpT_check (by decide) (by rfl) rfl rfl ?_; intro K hK; go_big_quiet_op; go_big_quiet_on) | (refine wpT_skip (by decide) (by rfl) ?_; intro K hK; go_big_quiet_op; go_big_quiet_on))
                                    refine wpT_call 53 #[.int .i64 j] (.int .i64 aj) (by kernel_rfl) (fun w => by kernel_rfl) ?_ ?_
                                    · intro t W' hW
                                      refine (cAj W').mono ?_
                                      rintro r W'' ⟨rfl, rfl⟩
                                      refine ⟨rfl, ?_⟩
                                      rw [show (t || decide (18 = 25)) = t by simp]
                                      exact hW
                                    (intro K hK; go_big_quiet_op; go_big_quiet_on)
                                    iterate 6 (first | (refine wpT_plain (by decide) (by rfl) rfl ?_; intro K hK; go_big_quiet_op; go_big_quiet_on) | (refine wpT_check (by decide) (by rfl) rfl rfl ?_; intro K hK; go_big_quiet_op; go_big_quiet_on) | (refine wpT_skip (by decide) (by rfl) ?_; intro K hK; go_big_quiet_op; go_big_quiet_on))
                                    refine wpT_call 75 #[.pointer (some ⟨b, 0, none⟩), .int .i64 x2, .int .i64 x3] (.int .i64 (plus x2 x3)) (by kernel_rfl) (fun w => by kernel_rfl) ?_ ?_
                                    · intro t W' hW
                                      have hW := (hT' _ _).1 hW
                                      refine (mx_plus hW x2 x3).mono ?_
                                      rintro r W'' ⟨rfl, hW'⟩
                                      refine ⟨rfl, (hT' _ _).2 ?_⟩
                                      rw [show (t || decide (25 = 25)) = true by simp]
                                      cases t
                                      · exact hW'
                                      · rw [show ((bif true then (V.2 || sat x2 x3) else V.2) || sat x2 x3) = (V.2 || sat x2 x3) by cases V.2 <;> cases sat x2 x3 <;> rfl] at hW'
                                        exact hW'
                                    (intro K hK; go_big_quiet_op; go_big_quiet_on)
                                    refine wpT_nil ?_
                                    intro w5 hw5
                                    have hN5 := (hT' _ _).1 hw5
                                    rw [show (bif true then (V.2 || sat x2 x3) else V.2) = (V.2 || sat x2 x3) from rfl] at hN5
                                    clear hw5 hN l0 l2 l3 hT' cAi cAj v2 v3
                                    generalize (V.2 || sat x2 x3) = s4 at *
                                    generalize hx5 : half (plus x2 x3) = x5 at *
                                    generalize plus x2 x3 = x6 at *
                                    generalize hx4 : (if x5 < x1 then x5 else x1) = x4 at *
                                    go_wp2_with fail
                                    refine mixQ_normal ?_
                                    have a0 := After.cell hN5.c1
                                    have a1 := After.cell (v1 _ _ hN5)
                                    clear hx5 q2 q3
                                    go_wp2_with fail
                                    refine wp_region_mix [(23, 2)] (by kernel_rfl) (by kernel_rfl) ?_
                                    simp only [wpMix, List.take_succ_cons, List.take_zero, List.drop_succ_cons, List.drop_zero]
                                    repeat (go_big_quiet_step ((go_at_call 77; with_reducible exact after_same (cH _))))
                                    refine wpQuiet_nil ?_
                                    intro w6 hb6
                                    have hN6 := hN5.go hb6
                                    have k1 := v1 _ _ hN6
                                    have kf := hN6.frozenAt (pi + j)
                                    have hP6 := Lib.hid (hN6.put (pi + j) x4 hg1)
                                    clear hN5 hN6 hb6 a0 a1 cH v1
                                    go_wp2_with fail
                                    refine mixQ_normal (wpQuiet_nil ?_)
                                    intro w7 hb7
                                    have hN7 := hP6.out.go hb7
                                    clear hP6 hb7 k1 kf
                                    go_wp2_with fail
                                    go_roundw
                                    case rel => exact ⟨j + 1, by go_num, by omega, (_, s4), Lib.hid HJ.out.symm, hN7⟩
                                    case measure => simp [intOf]; omega
                                · obtain rfl : j = 2 * n := by omega
                                  go_wp2_with fail
                                  go_roundw
                                  case rel => exact ⟨i + 1, by go_num, by omega, V, Lib.hid (by rw [HVV.out, HS'.out]; rfl), hN⟩
                                  case measure => simp [intOf]; omega
                            · have hi' : i = 2 * n := by omega
                              have di : decide ((i : Int) < 2 * (n : Int)) = false := decide_eq_false (by omega)
                              have HF : Hid (ofP n false M = (((n : Int), false, S'.1), S'.2)) := Lib.hid (by
                                have hcm := closeM_ok (m := 2 * n) (M := M) ⟨fun _ => HO2.out, fun _ => HW2.out⟩
                                have h6 : clSt (2 * n) M 6 = S' := by
                                  show strong (2 * n) ((clSt (2 * n) M 4).1, (sides (2 * n) (clSt (2 * n) M 4).1 (clSt (2 * n) M 4).2).2) = S'
                                  rw [HA.out, ← HW.out, HS'.out, hi']; rfl
                                unfold ofP closeP
                                rw [HC.out, if_neg (by simp), if_neg (by simp)]
                                simp only [Int.toNat_natCast]
                                rw [hcm, h6])
                              clear hi' HS'
                              obtain ⟨m0, m1, m2, r0, r1, r2, fc, fr, hB8, hl8⟩ := hR.go hM'.below
                              have q0 := hM'.c0
                              have q1 := hM'.c1
                              have q2 := hM'.c2
                              have ho := hM'.ow
                              have hbl : w.heap.size + 1 < b := Nat.lt_of_lt_of_le hR.lt hM'.hb
                              have hBB : w.heap.size + 1 < W.heap.size := hR.lt
                              clear hM' m1 m2
                              generalize S'.2 = sv at *
                              generalize S'.1 = V at *
                              go_wp2_with fail
                              go_region
                              all_goals go_wp2_with fail
                              all_goals refine bodyPost_ret (v := .tuple #[.agg #[.int .i64 n, .bool false, .slice A' V.length c'], .bool sv]) (by simp [results, Try.results57, go_sem, r0, r1, r2]) rfl (tellsOf HF.out rfl rfl ?_ ?_)
                              all_goals first
                                | exact ((hB8.drew.setCell (by simp) _).setCell (by simp) _).setCell (by simp) _
                                | exact (((ho.drew.low (by simp; omega) _).low (by simp; omega) _).low (by simp; omega) _).lower (by omega)
                        · have HF : Hid (ofP n false M = (((n : Int), true, []), s0)) := Lib.hid (by
                            have hcm := closeM_sides (m := 2 * n) (M := M) ⟨fun _ => HO2.out, fun h => by omega⟩ (by rw [HA.out, ← HW.out])
                            unfold ofP closeP
                            rw [HC.out, if_neg (by simp), if_neg (by simp)]
                            simp only [Int.toNat_natCast]
                            rw [hcm]
                            show ((((n : Int), true, []), (sides (2 * n) (clSt (2 * n) M 4).1 (clSt (2 * n) M 4).2).2) : (Int × Bool × List Int) × Bool) = _
                            rw [HA.out, ← HW.out])
                          have cE := fun W => ref_Empty n W
                          obtain ⟨m0, m1, m2, r0, r1, r2, fc, fr, hB5, hl5⟩ := hR.go hN.below
                          have q2 := hN.c2
                          have hRr := hR.go hN.below
                          clear m1 m2 hN HW HA HO2
                          go_wp2_with fail
                          go_region_held3 (fun X => X.cell? ⟨w.heap.size, 0, none⟩ = some (.int .i64 n) ∧ X.cell? ⟨b, 2, none⟩ = some (.bool s0)) (first | exact ⟨m0, q2⟩ | exact ⟨c0, c1⟩ | go_keep) ((go_at_call 45; refine (cE _).mono ?_; rintro e w8 ⟨rfl, hb8⟩; have hb9 := (Below.refl wr.heap.size wr).drew.trans hb8; have c1 := below_cell hb9 q2; obtain ⟨c0, _, _, r0, r1, r2, fc, fr, hB, hl⟩ := hRr.go hb9))
                          go_wp2_with fail
                          refine bodyPost_ret (v := .tuple #[.agg #[.int .i64 n, .bool true, .slice none 0 0], .bool s0]) (by simp [results, Try.results57, go_sem, r0, r1, r2]) rfl (tellsOf HF.out rfl rfl (Ow.nil _ _ _ _) ?_)
                          exact ((hB.setCell (by simp) _).setCell (by simp) _).setCell (by simp) _
  · have HF : Hid (ofP n true M = (((n : Int), true, []), false)) := Lib.hid (by unfold ofP closeP; rw [HC.out, if_neg (by simp), if_pos rfl])
    have cE := fun W => ref_Empty n W
    clear hE0 hE1
    have hRr := hR
    go_enter Try.func57, Try.ntmps57
    go_wp2_with fail
    rw [← hW]
    clear hW
    refine (cE _).mono ?_
    rintro e w8 ⟨rfl, hb8⟩
    clear cE m0 m1 m2 r0 r1 r2 fc fr hB1 hl1
    obtain ⟨c0, _, _, r0, r1, r2, fc, fr, hB, hl⟩ := hRr.go hb8
    go_wp2_with fail
    refine bodyPost_ret (v := .tuple #[.agg #[.int .i64 n, .bool true, .slice none 0 0], .bool false]) (by simp [results, Try.results57, go_sem, r0, r1, r2]) rfl (tellsOf HF.out rfl rfl (Ow.nil _ _ _ _) ?_)
    exact ((hB.setCell (by simp) _).setCell (by simp) _).setCell (by simp) _
end Go.Proofs.Ytkgddgckilledaa
