/- The walk of With, of the package dbm. -/
import Derived.Test.YtkgddgckilledaaOctD
namespace Go.Proofs.Ytkgddgckilledaa
open Go.RowKit
set_option linter.unusedVariables false
set_option linter.unusedSimpArgs false
open Gn
namespace Gn
/-- One step of With: a cell bounded. -/
def stepM (M : List Int) (p : Nat) (c : Int) : List Int := M.set p (less (nth M p) c)
theorem stepM_two {n : Nat} {M : List Int} {i j : Nat} {c : Int} (hl : M.length = (2 * n) * (2 * n)) (hok : okM (2 * n) M) (hi : i < 2 * n) (hj : j < 2 * n) :
    stepM (stepM M (i * (2 * n) + j) c) (ac j * (2 * n) + ac i) c = boundM (2 * n) M i j c := by
  have h1 := hok i hi j hj
  have hb := asB_of ((isB_iff _).1 h1.1)
  have hai := ac_lt hi
  have haj := ac_lt hj
  have hp := idx_lt hi hj
  have hp' := idx_lt haj hai
  have e1 : less (nth M (i * (2 * n) + j)) c = min (cl (2 * n) M i j) (asB c) := by
    unfold less
    rw [show nth M (i * (2 * n) + j) = cl (2 * n) M i j from rfl, hb]
  have hcb := asB_bd c
  have e2 : less (nth (stepM M (i * (2 * n) + j) c) (ac j * (2 * n) + ac i)) c = min (cl (2 * n) M i j) (asB c) := by
    by_cases h : i * (2 * n) + j = ac j * (2 * n) + ac i
    · unfold stepM
      rw [← h, nth_set_same (by omega), e1]
      unfold less
      rw [asB_of (show Bd (min (cl (2 * n) M i j) (asB c)) by
        have := (isB_iff _).1 h1.1
        unfold Bd at *; omega)]
      omega
    · unfold stepM
      rw [nth_set_ne h]
      have : nth M (ac j * (2 * n) + ac i) = cl (2 * n) M i j := h1.2.2.symm
      rw [this]
      unfold less
      rw [hb]
  unfold boundM
  rw [← e1] at e2 ⊢
  show (stepM M (i * (2 * n) + j) c).set _ _ = _
  rw [e2]
  rfl
theorem stepM_len (M : List Int) (p : Nat) (c : Int) : (stepM M p c).length = M.length := by simp [stepM]
end Gn
set_option maxHeartbeats 2000000 in
theorem dbm_With (N : Int) (E : Bool) (A : Option Addr) (c : Nat) (M : List Int) (i j b : Int) (w : World) (h : OctIn w w.heap.size A c N M) (hM : (M.length : Int) ≤ 17592186043904) :
    Calls Try.prog 20 #[.agg #[.int .i64 N, .bool E, .slice A M.length c], .int .i64 i, .int .i64 j, .int .i64 b] w (TellsOct w (withP N E M i j b)) := by
  obtain ⟨W, hW, hR, hs⟩ := box_res w 24 N E (.slice A M.length c)
  have hW1 := h.go hR.below
  have hR := (⟨hR.c0, hR.c1, hR.c2, hR.r0, hR.r1, hR.r2, hR.fc, hR.fr, hR.below.mono (Nat.le_refl _), hR.lt⟩ : BoxRes w W N E (.slice A M.length c))
  have cC := dbm_Check A c N E M W hW1
  obtain ⟨k0, k1, k2, _, _, _, _, _, _, _⟩ := id hR
  go_enter Try.func20, Try.ntmps20
  go_wp2_with fail
  rw [← hW]
  clear hW
  refine cC.mono ?_
  clear cC
  rintro e w1 ⟨rfl, hb1⟩
  have hoct := hW1.go hb1
  have hR1 := hR.go hb1
  obtain ⟨m0, m1, m2, r0, r1, r2, fc, fr, hB1, hl1⟩ := id hR1
  clear k0 k1 k2 hb1 hR hW1
  by_cases hc : chk N E M = 0
  · obtain ⟨n, rfl, hn, hE1, hE0⟩ := chk_zero hc
    have HC := Lib.hid hc
    rw [hc]
    clear hc
    have cI := fun W => dbm_within n E (.slice A M.length c) i j W hn
    clear r0 r1 r2 fc fr hB1 hl1
    by_cases hin : inM n i j = true
    · rw [hin] at cI
      go_wp2_with fail
      refine (cI _).mono ?_
      clear cI m0 m1 m2
      rintro e w2 ⟨rfl, hb2⟩
      have hoct2 := hoct.go hb2
      have hR2 := hR1.go hb2
      clear hb2 hR1 hoct
      obtain ⟨m0, m1, m2, _, _, _, _, _, _, hl2⟩ := id hR2
      have hl2' : w.heap.size < w2.heap.size := by omega
      rcases E with _ | _
      · obtain ⟨hl, hok⟩ := hE0 rfl
        by_cases hij : i = j
        · subst hij
          obtain ⟨a, b', rfl, hab0, ha, hab1⟩ := inM_iff.1 hin
          clear hab0 hab1 hl hok
          by_cases hneg : b < 0
          · have HG := Lib.hid (withP_none HC.out hin hneg)
            have cE := fun W => dbm_Empty n W hn
            clear hE0 hE1 hin
            go_wp2_with fail
            refine (cE _).mono ?_
            clear cE m0 m1 m2
            rintro e w4 ⟨rfl, hb4⟩
            obtain ⟨m0, m1, m2, r0, r1, r2, fc, fr, hB5, hl5⟩ := (hR2.go ((Below.refl _ _).alloc (Nat.le_refl _) _)).go hb4
            clear hb4 hl2 hl2' hneg
            go_wp2_with fail
            refine bodyPost_ret (v := .tuple #[.agg #[.int .i64 n, .bool true, .slice none 0 0], .int .i64 0]) (by simp [results, Try.results20, go_sem, r0, r1, r2]) rfl (tells HG.out rfl rfl (Ow.nil _ _ _ _) ?_)
            exact ((hB5.setCell (by simp) _).setCell (by simp) _).setCell (by simp) _
          · have HG := Lib.hid (withP_same HC.out hin hneg)
            have cK := fun (X : World) (h : Rd X X.heap.size .i64 A M.length (nth M)) => dbm_copied n false A c M X h hM
            clear hE0 hE1 hin
            go_wp2_with fail
            have hal := (Below.refl w2.heap.size w2).alloc (Nat.le_refl _) (.cells #[.int .i64 a, .int .i64 a] /-T-/64)
            refine (cK _ ((hoct2.rd.below hal).more hal.size)).mono ?_
            clear cK m0 m1 m2
            rintro e w4 ⟨A4, c4, rfl, ho4, hb4⟩
            obtain ⟨m0, m1, m2, r0, r1, r2, fc, fr, hB5, hl5⟩ := (hR2.go hal).go hb4
            have hs4 := hal.size
            clear hb4 hal hneg
            go_wp2_with fail
            refine bodyPost_ret (v := .tuple #[.agg #[.int .i64 n, .bool false, .slice A4 M.length c4], .int .i64 0]) (by simp [results, Try.results20, go_sem, r0, r1, r2]) rfl (tells HG.out rfl rfl ?_ ?_)
            · have ho5 := ho4.lower (b' := w2.heap.size) hs4
              exact (((ho5.low (by simp; omega) _).low (by simp; omega) _).low (by simp; omega) _).lower (by omega)
            · exact ((hB5.setCell (by simp) _).setCell (by simp) _).setCell (by simp) _
        · obtain ⟨a, b', rfl, rfl, ha, hb'⟩ := inM_iff.1 hin
          have hab : a ≠ b' := fun h => hij (by rw [h])
          have HG := Lib.hid (withP_in (c := b) HC.out hin hab)
          have hbb : (((a : Nat) : Int) == b') = false := beq_eq_false_iff_ne.2 (by omega)
          have HMl := Lib.hid (show M.length = (2 * n) * (2 * n) by rw [hl, sq2])
          have HOK := Lib.hid hok
          have cK := fun (X : World) (h : Rd X X.heap.size .i64 A M.length (nth M)) => dbm_copied n false A c M X h hM
          clear hE0 hE1 hin hl hok hij
          go_wp2_with fail
          have hal := (Below.refl w2.heap.size w2).alloc (Nat.le_refl _) (.cells #[.int .i64 a, .int .i64 b'] /-T-/64)
          have d0 : (w2.alloc (.cells #[.int .i64 a, .int .i64 b'] /-T-/64)).cell? ⟨w2.heap.size, 0, none⟩ = some (.int .i64 a) := by simp [World.cell?_alloc_new]
          have d1 : (w2.alloc (.cells #[.int .i64 a, .int .i64 b'] /-T-/64)).cell? ⟨w2.heap.size, 1, none⟩ = some (.int .i64 b') := by simp [World.cell?_alloc_new]
          have hs3 : (w2.alloc (.cells #[.int .i64 a, .int .i64 b'] /-T-/64)).heap.size = w2.heap.size + 1 := by simp
          refine (cK _ ((hoct2.rd.below hal).more hal.size)).mono ?_
          clear cK m0 m1 m2
          have hR3 := hR2.go hal
          have hM' := hoct2.len
          clear hal hR2 hoct2
          generalize (w2.alloc (.cells #[.int .i64 a, .int .i64 b'] /-T-/64)) = w3 at *
          rintro e w4 ⟨A4, c4, rfl, ho4, hb4⟩
          have hR4 := hR3.go hb4
          have e0 := below_cell hb4 d0
          have e1 := below_cell hb4 d1
          have hs4 := hb4.size
          obtain ⟨g, rfl, hg1, hg2⟩ := ho4.blockOf (by have := idx_lt ha hb'; rw [HMl.out]; omega)
          obtain ⟨w5, hw5⟩ : ∃ w5, w5 = w4.alloc (.cells #[.int .i64 n, .bool false, .slice (some ⟨g, 0, none⟩) M.length c4] /-T-/24) := ⟨_, rfl⟩
          have hal : Below w4.heap.size w4 w5 := by rw [hw5]; exact (Below.refl _ _).alloc (Nat.le_refl _) _
          have hO : OctAt w5 w4.heap.size n false (.slice (some ⟨g, 0, none⟩) M.length c4) := by rw [hw5]; exact OctAt.box _ _ _ _ _
          have hs5 : w5.heap.size = w4.heap.size + 1 := by rw [hw5]; simp
          have hR5 := hR4.go hal
          have ho5 := ho4.below hal
          have f0 := below_cell hal e0
          have f1 := below_cell hal e1
          clear hb4 hR4 ho4 e0 e1 d0 d1 hal hR3
          go_wp2_with fail
          rw [← hw5]
          clear hw5
          have cMi := fun W => cell_mirror a b' W (by omega) (by omega)
          have a0 := After.cell f0
          have a1 := After.cell f1
          refine wp_region_after (by kernel_rfl) (by kernel_rfl) ?_
          repeat (go_big_quiet_step ((go_at_call 34; with_reducible exact after_of (cMi _))))
          refine wpQuiet_nil ?_
          intro w6 hb6
          have hR6 := hR5.go hb6
          have hO6 := hO.below hb6
          have ho6 := ho5.below hb6
          have hs6 := hb6.size
          clear hb6 hR5 hO ho5 a0 a1 f0 f1 cMi
          have i0 : ∀ (p q r s : Int) (W : World), (Instr.index /-T-/83 (.agg #[.int .i64 p, .int .i64 q, .int .i64 r, .int .i64 s]) (.int .i64 0)).run Try.prog W = .ok (.agg #[.int .i64 p, .int .i64 q]) W := fun _ _ _ _ _ => by kernel_rfl
          have i1 : ∀ (p q r s : Int) (W : World), (Instr.index /-T-/83 (.agg #[.int .i64 p, .int .i64 q, .int .i64 r, .int .i64 s]) (.int .i64 1)).run Try.prog W = .ok (.agg #[.int .i64 r, .int .i64 s]) W := fun _ _ _ _ _ => by kernel_rfl
          have hai := ac_lt ha
          have hbi := ac_lt hb'
          have hp1 : a * (2 * n) + b' < M.length := by rw [HMl.out]; exact idx_lt ha hb'
          have hp2 : ac b' * (2 * n) + ac a < M.length := by rw [HMl.out]; exact idx_lt hbi hai
          have hMq : M.length ≤ 16384 := by rw [HMl.out, sq2]; exact sq_le hn
          go_wp2_with fail
          go_loopw [53] (fun s wr => ∃ k : Nat, s = .int .i64 k ∧ k ≤ 2 ∧ BoxRes w wr n false (.slice A M.length c) ∧ OctAt wr w4.heap.size n false (.slice (some ⟨g, 0, none⟩) M.length c4) ∧ ∃ X : List Int, X.length = M.length ∧ Ow wr w3.heap.size 2 .i64 (some ⟨g, 0, none⟩) c4 X ∧
              Hid ((k = 0 → X = M) ∧ (k = 1 → X = stepM M (a * (2 * n) + b') b) ∧ (k = 2 → X = stepM (stepM M (a * (2 * n) + b') b) (ac b' * (2 * n) + ac a) b))) (fun s _ => 2 - (intOf s).toNat)
          case atStart => exact ⟨0, rfl, by omega, hR6, hO6, M, rfl, ho6, Lib.hid ⟨fun _ => rfl, fun h => by omega, fun h => by omega⟩⟩
          case round =>
            clear hR6 hO6 ho6
            rename_i wr _ _
            obtain ⟨k, rfl, hk, hR, hO, X, hX, ho, HX⟩ := hrel
            have hk3 : k = 0 ∨ k = 1 ∨ k = 2 := by omega
            rcases hk3 with hk0 | hk1 | hk2
            · have cA := fun W => cell_at a b' n W (by omega) (by omega) (by omega)
              have HP := Lib.hid (stepM_len X (a * (2 * n) + b') b)
              have HS := Lib.hid (show stepM X (a * (2 * n) + b') b = X.set (a * (2 * n) + b') (less (nth X (a * (2 * n) + b')) b) from rfl)
              have HXX := Lib.hid hX
              have hpX : a * (2 * n) + b' < X.length := by rw [hX]; exact hp1
              obtain ⟨v, hv⟩ : ∃ v, v = nth X (a * (2 * n) + b') := ⟨_, rfl⟩
              obtain ⟨Z, hZ⟩ : ∃ Z, Z = stepM X (a * (2 * n) + b') b := ⟨_, rfl⟩
              rw [← hv, ← hZ] at HS
              have HZ : Hid ((k = 0 → Z = stepM M (a * (2 * n) + b') b) ∧ (k = 1 → Z = stepM (stepM M (a * (2 * n) + b') b) (ac b' * (2 * n) + ac a) b)) := Lib.hid (by
                subst hk0
                rw [hZ]
                exact ⟨fun _ => by rw [HX.out.1 rfl], fun h => by omega⟩)
              have HZl := Lib.hid (show Z.length = M.length by rw [hZ, HP.out, hX])
              have cL := fun W => bound_Less v b W
              have hcv := ho.cellAt hpX
              rw [← hv] at hcv
              have q1 : ((a * (2 * n) + b' : Nat) : Int) < (M.length : Int) := by have := hp1; omega
              have q2 : (0 : Int) ≤ ((a * (2 * n) + b' : Nat) : Int) := by omega
              clear hv hZ hX HX HP
              generalize less v b = lv at *
              generalize a * (2 * n) + b' = p at *
              subst hk0
              obtain ⟨m0, m1, m2, _, _, _, _, _, _, hl5⟩ := id hR
              have hl5' : w.heap.size < wr.heap.size := by omega
              go_wp2_with fail
              have hal := (Below.refl wr.heap.size wr).alloc (Nat.le_refl _) (.cells #[.int .i64 a, .int .i64 b'] /-T-/64)
              refine (cA _).mono ?_
              clear cA m0 m1 m2 hl5 hl5'
              rintro e w7 ⟨rfl, hb7⟩
              have hR7 := (hR.go hal).go hb7
              have hO7 := (hO.below hal).below hb7
              have ho7 := (ho.below hal).below hb7
              have hcv7 := below_cell hb7 (below_cell hal hcv)
              obtain ⟨o0, o1, o2⟩ := id hO7
              clear hR hO ho hcv hal hb7
              go_wp2_with fail
              have a2 := After.cell o2
              have a3 := After.cell hcv7
              refine wp_region_mix [(11, 1)] (by kernel_rfl) (by kernel_rfl) ?_
              simp only [wpMix, List.take_succ_cons, List.take_zero, List.drop_succ_cons, List.drop_zero]
              repeat (go_big_quiet_step ((go_at_call 50; with_reducible exact after_same (cL _))))
              refine wpQuiet_nil ?_
              intro w8 hb8
              have hR8 := hR7.go hb8
              have hO8 := hO7.below hb8
              have ho8 := ho7.below hb8
              have hcv8 := below_cell hb8 hcv7
              have hf8 := ho8.frozenAt p
              have ho8' := ho8.set p lv
              have hR8' := hR8.below.setCell (p := ⟨g, p, none⟩) (by simp; omega) (.int .i64 lv)
              have hS8 := only_setCell (p := ⟨g, p, none⟩) (World.grownBy.refl w8 (some g)) (.inl rfl) (.int .i64 lv)
              have hRr := hR8.r.only hS8 (by omega) (by omega)
              have hO8' := hO8.only hS8 (by omega)
              rw [← HS.out] at ho8'
              clear hb8 hR7 hO7 ho7 hcv7 a2 a3 ho8 hO8 hR8 hS8 o0 o1 o2
              go_wp2_with fail
              refine mixQ_normal (wpQuiet_nil ?_)
              intro w9 hb9
              have hR9 : BoxRes w w9 n false (.slice A M.length c) := (⟨hRr.c0, hRr.c1, hRr.c2, hRr.r0, hRr.r1, hRr.r2, hRr.fc, hRr.fr, hR8', hRr.lt⟩ : BoxRes w (w8.setCell ⟨g, p, none⟩ (.int .i64 lv)) n false (.slice A M.length c)).go hb9
              have hO9 := hO8'.below hb9
              have ho9 := ho8'.below hb9
              clear hb9 hRr hR8' hO8' ho8' hf8 hcv8
              go_wp2_with fail
              go_roundw
              case rel => exact ⟨1, by go_num, by omega, hR9, hO9, Z, HZl.out, ho9, Lib.hid ⟨fun h => by omega, fun h => HZ.out.1 (by trivial), fun h => by omega⟩⟩
              case measure => simp [intOf]
            · have cA := fun W => cell_at (ac b') (ac a) n W (by omega) (by omega) (by omega)
              have HP := Lib.hid (stepM_len X (ac b' * (2 * n) + ac a) b)
              have HS := Lib.hid (show stepM X (ac b' * (2 * n) + ac a) b = X.set (ac b' * (2 * n) + ac a) (less (nth X (ac b' * (2 * n) + ac a)) b) from rfl)
              have HXX := Lib.hid hX
              have hpX : ac b' * (2 * n) + ac a < X.length := by rw [hX]; exact hp2
              obtain ⟨v, hv⟩ : ∃ v, v = nth X (ac b' * (2 * n) + ac a) := ⟨_, rfl⟩
              obtain ⟨Z, hZ⟩ : ∃ Z, Z = stepM X (ac b' * (2 * n) + ac a) b := ⟨_, rfl⟩
              rw [← hv, ← hZ] at HS
              have HZ : Hid ((k = 0 → Z = stepM M (a * (2 * n) + b') b) ∧ (k = 1 → Z = stepM (stepM M (a * (2 * n) + b') b) (ac b' * (2 * n) + ac a) b)) := Lib.hid (by
                subst hk1
                rw [hZ]
                exact ⟨fun h => by omega, fun _ => by rw [HX.out.2.1 rfl]⟩)
              have HZl := Lib.hid (show Z.length = M.length by rw [hZ, HP.out, hX])
              have cL := fun W => bound_Less v b W
              have hcv := ho.cellAt hpX
              rw [← hv] at hcv
              have q1 : ((ac b' * (2 * n) + ac a : Nat) : Int) < (M.length : Int) := by have := hp2; omega
              have q2 : (0 : Int) ≤ ((ac b' * (2 * n) + ac a : Nat) : Int) := by omega
              clear hv hZ hX HX HP
              generalize less v b = lv at *
              generalize ac b' * (2 * n) + ac a = p at *
              subst hk1
              obtain ⟨m0, m1, m2, _, _, _, _, _, _, hl5⟩ := id hR
              have hl5' : w.heap.size < wr.heap.size := by omega
              go_wp2_with fail
              have hal := (Below.refl wr.heap.size wr).alloc (Nat.le_refl _) (.cells #[.int .i64 (ac b'), .int .i64 (ac a)] /-T-/64)
              refine (cA _).mono ?_
              clear cA m0 m1 m2 hl5 hl5'
              rintro e w7 ⟨rfl, hb7⟩
              have hR7 := (hR.go hal).go hb7
              have hO7 := (hO.below hal).below hb7
              have ho7 := (ho.below hal).below hb7
              have hcv7 := below_cell hb7 (below_cell hal hcv)
              obtain ⟨o0, o1, o2⟩ := id hO7
              clear hR hO ho hcv hal hb7
              go_wp2_with fail
              have a2 := After.cell o2
              have a3 := After.cell hcv7
              refine wp_region_mix [(11, 1)] (by kernel_rfl) (by kernel_rfl) ?_
              simp only [wpMix, List.take_succ_cons, List.take_zero, List.drop_succ_cons, List.drop_zero]
              repeat (go_big_quiet_step ((go_at_call 50; with_reducible exact after_same (cL _))))
              refine wpQuiet_nil ?_
              intro w8 hb8
              have hR8 := hR7.go hb8
              have hO8 := hO7.below hb8
              have ho8 := ho7.below hb8
              have hcv8 := below_cell hb8 hcv7
              have hf8 := ho8.frozenAt p
              have ho8' := ho8.set p lv
              have hR8' := hR8.below.setCell (p := ⟨g, p, none⟩) (by simp; omega) (.int .i64 lv)
              have hS8 := only_setCell (p := ⟨g, p, none⟩) (World.grownBy.refl w8 (some g)) (.inl rfl) (.int .i64 lv)
              have hRr := hR8.r.only hS8 (by omega) (by omega)
              have hO8' := hO8.only hS8 (by omega)
              rw [← HS.out] at ho8'
              clear hb8 hR7 hO7 ho7 hcv7 a2 a3 ho8 hO8 hR8 hS8 o0 o1 o2
              go_wp2_with fail
              refine mixQ_normal (wpQuiet_nil ?_)
              intro w9 hb9
              have hR9 : BoxRes w w9 n false (.slice A M.length c) := (⟨hRr.c0, hRr.c1, hRr.c2, hRr.r0, hRr.r1, hRr.r2, hRr.fc, hRr.fr, hR8', hRr.lt⟩ : BoxRes w (w8.setCell ⟨g, p, none⟩ (.int .i64 lv)) n false (.slice A M.length c)).go hb9
              have hO9 := hO8'.below hb9
              have ho9 := ho8'.below hb9
              clear hb9 hRr hR8' hO8' ho8' hf8 hcv8
              go_wp2_with fail
              go_roundw
              case rel => exact ⟨2, by go_num, by omega, hR9, hO9, Z, HZl.out, ho9, Lib.hid ⟨fun h => by omega, fun h => by omega, fun h => HZ.out.2 (by trivial)⟩⟩
              case measure => simp [intOf]
            · subst hk2
              have hXe := HX.out.2.2 rfl
              rw [stepM_two HMl.out HOK.out ha hb'] at hXe
              have HXe := Lib.hid hXe
              have HXl := Lib.hid hX
              clear hXe HX hX
              obtain ⟨m0, m1, m2, r0, r1, r2, fc, fr, hB9, hl9⟩ := hR
              obtain ⟨o0, o1, o2⟩ := hO
              go_wp2_with fail
              refine bodyPost_ret (v := .tuple #[.agg #[.int .i64 n, .bool false, .slice (some ⟨g, 0, none⟩) M.length c4], .int .i64 0]) (by simp [results, Try.results20, go_sem, r0, r1, r2]) rfl (tells HG.out (by rw [← HXe.out, HXl.out]) rfl ?_ ?_)
              · rw [← HXe.out]
                exact (((ho.low (by simp; omega) _).low (by simp; omega) _).low (by simp; omega) _).lower (by omega)
              · exact ((hB9.setCell (by simp) _).setCell (by simp) _).setCell (by simp) _
      · obtain rfl := hE1 rfl
        have HG := Lib.hid (withP_empty (c := b) HC.out hin)
        have cK := dbm_copied n true A c [] w2 hoct2.rd hM
        clear hE0 hE1 hin
        go_wp2_with fail
        refine cK.mono ?_
        clear cK m0 m1 m2
        rintro e w4 ⟨A4, c4, rfl, ho4, hb4⟩
        obtain ⟨m0, m1, m2, r0, r1, r2, fc, fr, hB5, hl5⟩ := hR2.go hb4
        have hs4 := hR2.lt
        clear hb4
        go_wp2_with fail
        refine bodyPost_ret (v := .tuple #[.agg #[.int .i64 n, .bool true, .slice A4 0 c4], .int .i64 0]) (by simp [results, Try.results20, go_sem, r0, r1, r2]) rfl (tells HG.out rfl rfl ?_ ?_)
        · exact (((ho4.low (by simp; omega) _).low (by simp; omega) _).low (by simp; omega) _).lower (by omega)
        · exact ((hB5.setCell (by simp) _).setCell (by simp) _).setCell (by simp) _
    · have hin' : inM n i j = false := by simpa using hin
      rw [hin'] at cI
      have HG := Lib.hid (withP_out (c := b) HC.out hin')
      clear hin hin'
      go_wp2_with fail
      refine (cI _).mono ?_
      clear cI m0 m1 m2
      rintro e w2 ⟨rfl, hb2⟩
      obtain ⟨m0, m1, m2, r0, r1, r2, fc, fr, hB2, hl2⟩ := hR1.go hb2
      clear hb2 hR1 hoct
      go_wp2_with fail
      refine bodyPost_ret (v := .tuple #[.agg #[.int .i64 0, .bool false, .slice none 0 0], .int .i64 122]) (by simp [results, Try.results20, go_sem, r0, r1, r2]) rfl (tells HG.out rfl rfl (Ow.nil _ _ _ _) ?_)
      exact ((hB2.setCell (by simp) _).setCell (by simp) _).setCell (by simp) _
  · have HG := Lib.hid (withP_bad (i := i) (j := j) (c := b) hc)
    have hc' : (chk N E M != 0) = true := bne_iff_ne.2 hc
    clear hc
    generalize chk N E M = cc at *
    go_wp2_with fail
    refine bodyPost_ret (v := .tuple #[.agg #[.int .i64 0, .bool false, .slice none 0 0], .int .i64 cc]) (by simp [results, Try.results20, go_sem, r0, r1, r2]) rfl (tells HG.out rfl rfl (Ow.nil _ _ _ _) ?_)
    exact ((hB1.setCell (by simp) _).setCell (by simp) _).setCell (by simp) _
end Go.Proofs.Ytkgddgckilledaa
