/- The walks of mirrors, loops and evens, of the package close. -/
import Derived.Test.YtkgddgckilledaaClp
namespace Go.Proofs.Ytkgddgckilledaa
open Go.RowKit
set_option linter.unusedVariables false
set_option linter.unusedSimpArgs false
open Gn
set_option maxHeartbeats 2000000 in
theorem mx_loops {w0 w : World} {B b n c : Nat} {A : Option Addr} {X : List Int} {s : Bool} (h : Mx w0 w B b A n c X s (some false)) (hn : n ≤ 64) (hl : X.length = (2 * n) * (2 * n)) :
    Calls Try.prog 85 #[.pointer (some ⟨b, 0, none⟩)] w fun r w' => r = .returned (.tuple #[]) ∧ Mx w0 w' B b A n c X s (some (loops (2 * n) X)) := by
  have c0 := h.c0
  go_enter Try.func85, Try.ntmps85
  go_wp2_with fail
  go_loopw [8] (fun s' wr => ∃ k : Nat, s' = .int .i64 k ∧ k ≤ 2 * n ∧ ∃ e : Bool, Hid (e = loopI (2 * n) X k false) ∧ Mx w0 wr B b A n c X s (some e)) (fun s _ => 2 * n - (intOf s).toNat)
  case atStart => exact ⟨0, rfl, by omega, false, Lib.hid rfl, h⟩
  case round =>
    obtain ⟨k, rfl, hk, e, HS, hM⟩ := hrel
    clear h c0
    have c0 := hM.c0
    rcases Nat.lt_or_ge k (2 * n) with hkt | hge
    · have hp : k * (2 * n) + k < X.length := by rw [hl]; exact idx_lt hkt hkt
      have hSt : loopI (2 * n) X (k + 1) false = (e || decide (nth X (k * (2 * n) + k) < 0)) := by rw [HS.out]; rfl
      have HJ := Lib.hid hSt
      clear hSt
      obtain ⟨g, rfl, hg1, hg2⟩ := hM.blockOf (by omega)
      have c1 := hM.c1
      have c3 := hM.c3 _ rfl
      have cv := hM.cellAt hp
      have fz := hM.fz 3
      generalize nth X (k * (2 * n) + k) = x at *
      have cA := mx_at (i := k) (j := k) c0 c1 (by omega) (by omega) (by omega) hp
      generalize k * (2 * n) + k = p at *
      rcases e with _ | _
      · by_cases hx : x < 0
        · have hd : decide (x < 0) = true := decide_eq_true hx
          rw [hd, Bool.false_or] at HJ
          have hE := fun m : Nat => (hM.go (below_drewN wr m)).emp true
          have HE := Lib.hid hE
          clear hE hM
          go_wp2_with (go_at_call 92; with_reducible refine cA.mono ?_; rintro r w3 ⟨rfl, m, rfl⟩)
          go_roundw
          case rel => exact ⟨k + 1, by go_num, by omega, true, Lib.hid HJ.out.symm, HE.out m⟩
          case measure => simp [intOf]; omega
        · have hd : decide (x < 0) = false := decide_eq_false hx
          rw [hd, Bool.false_or] at HJ
          have hE := fun m : Nat => (hM.go (below_drewN wr m)).emp false
          have HE := Lib.hid hE
          clear hE hM
          go_wp2_with (go_at_call 92; with_reducible refine cA.mono ?_; rintro r w3 ⟨rfl, m, rfl⟩)
          go_roundw
          case rel => exact ⟨k + 1, by go_num, by omega, false, Lib.hid HJ.out.symm, HE.out m⟩
          case measure => simp [intOf]; omega
      · rw [Bool.true_or] at HJ
        have hE := hM.emp true
        have HE := Lib.hid hE
        clear hE hM
        go_wp2_with fail
        go_roundw
        case rel => exact ⟨k + 1, by go_num, by omega, true, Lib.hid HJ.out.symm, HE.out⟩
        case measure => simp [intOf]; omega
    · obtain rfl : k = 2 * n := by omega
      clear c0
      go_wp2_with fail
      go_end0
      refine ⟨rfl, ?_⟩
      rw [← show e = loops (2 * n) X from HS.out]
      exact hM
set_option maxHeartbeats 2000000 in
theorem mx_evens {w0 w : World} {B b n c : Nat} {A : Option Addr} {X : List Int} {s : Bool} {e : Option Bool} (h : Mx w0 w B b A n c X s e) (hn : n ≤ 64) (hl : X.length = (2 * n) * (2 * n)) :
    Calls Try.prog 86 #[.pointer (some ⟨b, 0, none⟩)] w fun r w' => r = .returned (.tuple #[]) ∧ Mx w0 w' B b A n c (evens (2 * n) X) s e := by
  have c0 := h.c0
  go_enter Try.func86, Try.ntmps86
  go_wp2_with fail
  go_loopw [9] (fun s' wr => ∃ k : Nat, s' = .int .i64 k ∧ k ≤ 2 * n ∧ ∃ S : List Int, Hid (S = eI (2 * n) k X) ∧ Mx w0 wr B b A n c S s e) (fun s _ => 2 * n - (intOf s).toNat)
  case atStart => exact ⟨0, rfl, by omega, X, Lib.hid rfl, h⟩
  case round =>
    obtain ⟨k, rfl, hk, Y, HY, hM⟩ := hrel
    clear h c0
    have c0 := hM.c0
    rcases Nat.lt_or_ge k (2 * n) with hkt | hge
    · have hl2 : Y.length = (2 * n) * (2 * n) := by rw [HY.out, eI_len]; exact hl
      have hak := ac_lt hkt
      have hp : k * (2 * n) + ac k < Y.length := by rw [hl2]; exact idx_lt hkt hak
      have hSt : eI (2 * n) (k + 1) X = Y.set (k * (2 * n) + ac k) (even (nth Y (k * (2 * n) + ac k))) := by rw [HY.out]; rfl
      have HJ := Lib.hid hSt
      clear hSt hl2
      obtain ⟨g, rfl, hg1, hg2⟩ := hM.blockOf (by omega)
      have c1 := hM.c1
      have cv := hM.cellAt hp
      have cf := hM.frozenAt (k * (2 * n) + ac k)
      generalize nth Y (k * (2 * n) + ac k) = x at *
      have cA := mx_at (i := k) (j := ac k) c0 c1 (by omega) (by omega) (by omega) hp
      have ek := xor_one (x := k) (by omega)
      have cE := fun W => bound_Even x W
      generalize even x = y at *
      have HM := Lib.hid (fun m : Nat => (hM.go (below_drewN wr m)).put (k * (2 * n) + ac k) y hg1)
      generalize k * (2 * n) + ac k = p at *
      generalize ac k = ak at *
      clear hM
      go_wp2_with (first | (go_at_call 92; with_reducible refine cA.mono ?_; rintro r w3 ⟨rfl, m, rfl⟩) | (go_at_call 94; with_reducible refine (cE _).mono ?_; rintro r w3 ⟨rfl, rfl⟩))
      go_roundw
      case rel => exact ⟨k + 1, by go_num, by omega, _, Lib.hid HJ.out.symm, HM.out _⟩
      case measure => simp [intOf]; omega
    · obtain rfl : k = 2 * n := by omega
      clear c0
      go_wp2_with fail
      go_end0
      refine ⟨rfl, ?_⟩
      rw [← show Y = evens (2 * n) X from HY.out]
      exact hM
set_option maxHeartbeats 2000000 in
theorem mx_mirrors {w0 w : World} {B b n c : Nat} {A : Option Addr} {X : List Int} {s : Bool} {e : Option Bool} (h : Mx w0 w B b A n c X s e) (hn : n ≤ 64) (hl : X.length = (2 * n) * (2 * n)) :
    Calls Try.prog 84 #[.pointer (some ⟨b, 0, none⟩)] w fun r w' => r = .returned (.tuple #[]) ∧ Mx w0 w' B b A n c (mirrors (2 * n) X) s e := by
  have c0 := h.c0
  go_enter Try.func84, Try.ntmps84
  go_wp2_with fail
  go_loopw [11] (fun s' wr => ∃ i : Nat, s' = .int .i64 i ∧ i ≤ 2 * n ∧ ∃ S : List Int, Hid (S = mI (2 * n) i X) ∧ Mx w0 wr B b A n c S s e) (fun s _ => 2 * n - (intOf s).toNat)
  case atStart => exact ⟨0, rfl, by omega, X, Lib.hid rfl, h⟩
  case round =>
    obtain ⟨i, rfl, hi, S, HS, hM⟩ := hrel
    clear h c0
    have c0 := hM.c0
    rcases Nat.lt_or_ge i (2 * n) with hit | hge
    · have di : decide ((i : Int) < 2 * (n : Int)) = true := decide_eq_true (by omega)
      go_wp2_with fail
      go_loopw [19] (fun s' wr => ∃ j : Nat, s' = .int .i64 j ∧ j ≤ 2 * n ∧ ∃ S' : List Int, Hid (S' = mJ (2 * n) i j S) ∧ Mx w0 wr B b A n c S' s e) (fun s _ => 2 * n - (intOf s).toNat)
      case atStart => exact ⟨0, rfl, by omega, S, Lib.hid rfl, hM⟩
      case round =>
        obtain ⟨j, rfl, hj, Y, HY, hN⟩ := hrel
        clear hM c0
        have c0 := hN.c0
        rcases Nat.lt_or_ge j (2 * n) with hjt | hjge
        · have hl2 : Y.length = (2 * n) * (2 * n) := by rw [HY.out, mJ_len, HS.out, mI_len]; exact hl
          have hai := ac_lt hit
          have haj := ac_lt hjt
          have hp1 : i * (2 * n) + j < Y.length := by rw [hl2]; exact idx_lt hit hjt
          have hp2 : ac j * (2 * n) + ac i < Y.length := by rw [hl2]; exact idx_lt haj hai
          have hSt : mJ (2 * n) i (j + 1) S = mStep (2 * n) i j Y := by rw [HY.out]; rfl
          unfold mStep at hSt
          obtain ⟨g, rfl, hg1, hg2⟩ := hN.blockOf (by omega)
          have c1 := hN.c1
          have cA1 := mx_at (i := i) (j := j) c0 c1 (by omega) (by omega) (by omega) hp1
          have cA2 := fun m : Nat => mx_at (w := wr.drewN m) (i := ac j) (j := ac i) c0 c1 (by omega) (by omega) (by omega) hp2
          have ei := xor_one (x := i) (by omega)
          have ej := xor_one (x := j) (by omega)
          have V1 := fun (W : World) (h : Mx w0 W B b (some ⟨g, 0, none⟩) n c Y s e) => h.cellAt hp1
          have V2 := fun (W : World) (h : Mx w0 W B b (some ⟨g, 0, none⟩) n c Y s e) => h.cellAt hp2
          have cL := fun W => bound_Less (nth Y (i * (2 * n) + j)) (nth Y (ac j * (2 * n) + ac i)) W
          generalize hx4 : less (nth Y (i * (2 * n) + j)) (nth Y (ac j * (2 * n) + ac i)) = x4 at *
          clear hx4
          generalize nth Y (i * (2 * n) + j) = x1 at *
          generalize nth Y (ac j * (2 * n) + ac i) = x2 at *
          generalize i * (2 * n) + j = p1 at *
          generalize ac j * (2 * n) + ac i = p2 at *
          generalize ac i = ai at *
          generalize ac j = aj at *
          obtain ⟨Z, hZ⟩ : ∃ Z, Z = Y.set p1 x4 := ⟨_, rfl⟩
          have hZl : Z.length = Y.length := by rw [hZ, List.length_set]
          have hZ1 : nth Z p1 = x4 := by rw [hZ]; exact nth_set_same hp1
          rw [← hZ, hZ1] at hSt
          have HJ := Lib.hid hSt
          have HZ := Lib.hid hZ
          have HZ1 := Lib.hid hZ1
          have HZl := Lib.hid hZl
          have Hp1 := Lib.hid hp1
          have Hp2 := Lib.hid hp2
          clear hSt hl2 hZ hZ1 hZl
          go_wp2_with (first | (go_at_call 92; with_reducible refine cA1.mono ?_; rintro r w3 ⟨rfl, m, rfl⟩) | (go_at_call 92; with_reducible refine (cA2 _).mono ?_; rintro r w3 ⟨rfl, m', rfl⟩))
          have hN1 := hN.go (below_drewN _ (m + m'))
          clear hN c0 c1
          generalize wr.drewN (m + m') = w4 at *
          have a1 := After.cell (V1 _ hN1)
          have a2 := After.cell (V2 _ hN1)
          refine wp_region_mix [(9, 1)] (by kernel_rfl) (by kernel_rfl) ?_
          simp only [wpMix, List.take_succ_cons, List.take_zero, List.drop_succ_cons, List.drop_zero]
          repeat (go_big_quiet_step ((go_at_call 50; with_reducible exact after_same (cL _))))
          refine wpQuiet_nil ?_
          intro w6 hb6
          have hN6 := hN1.go hb6
          have k1 := V1 _ hN6
          have k2 := V2 _ hN6
          have kf := hN6.frozenAt p1
          have hP := hN6.put p1 x4 hg1
          rw [← HZ.out] at hP
          clear hN1 hN6 hb6 a1 a2
          go_wp2_with fail
          refine mixQ_normal (wpQuiet_nil ?_)
          intro w7 hb7
          have hN7 := hP.go hb7
          clear hP hb7 k1 k2 kf
          have k1 := hN7.cellAt (p := p1) (by rw [HZl.out]; exact Hp1.out)
          have k2 := hN7.cellAt (p := p2) (by rw [HZl.out]; exact Hp2.out)
          have kf := hN7.frozenAt p2
          rw [HZ1.out] at k1
          have hP := Lib.hid (hN7.put p2 x4 hg1)
          clear hN7
          go_wp2_with fail
          go_roundw
          case rel => exact ⟨j + 1, by go_num, by omega, _, Lib.hid HJ.out.symm, hP.out⟩
          case measure => simp [intOf]; omega
        · obtain rfl : j = 2 * n := by omega
          go_wp2_with fail
          go_roundw
          case rel => exact ⟨i + 1, by go_num, by omega, Y, Lib.hid (by rw [HY.out, HS.out]; rfl), hN⟩
          case measure => simp [intOf]; omega
    · obtain rfl : i = 2 * n := by omega
      clear c0
      go_wp2_with fail
      go_end0
      refine ⟨rfl, ?_⟩
      rw [← show S = mirrors (2 * n) X from HS.out]
      exact hM
end Go.Proofs.Ytkgddgckilledaa
