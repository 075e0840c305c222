/- The walk of the statement CloseChains. -/
import Derived.Test.YtgganboepfikiaaCcl
import Derived.Test.YtgganboepfikiaaCch
import Derived.Test.YtgganboepfikiaaObx
namespace Go.Proofs.Ytgganboepfikiaa
open Go.RowKit
set_option linter.unusedVariables false
set_option linter.unusedSimpArgs false
open Gn
set_option maxRecDepth 100000 in
set_option maxHeartbeats 40000000 in
theorem law_CloseChains (A : Option Addr) (c : Nat) (ws : List Int) (w : World) (hx : Rd w w.heap.size .i16 A ws.length (nth ws)) (hl0 : ∀ v ∈ ws, small v) (hlm : (ws.length : Int) ≤ 9223372036854775807) :
    Calls Try.prog 3 #[.slice A ws.length c] w fun e w' => e = .returned (.bool true) ∧ Below w.heap.size w w' := by
  have hl := small_nth hl0
  clear hl0
  have cK := known13 w
  go_enter Try.func3, Try.ntmps3
  go_wp2_with fail
  refine cK.mono ?_
  clear cK
  rintro e w1 ⟨rfl, hb1⟩
  by_cases hl12 : ws.length ≤ 12
  · have hd : decide ((12 : Int) < (ws.length : Int)) = false := decide_eq_false (by omega)
    obtain ⟨l, hll⟩ : ∃ l, l = ws.length := ⟨_, rfl⟩
    rw [← hll] at hl12 hlm hd hx ⊢
    have HRX := Lib.hid hx
    have HSL := Lib.hid hl
    clear hll hx hl
    go_wp2_with fail
    obtain ⟨n, hn⟩ : ∃ n, n = l + 1 := ⟨_, rfl⟩
    have cT := fun W => ref_Top n W (by omega)
    have hn1 : l < n := by omega
    have hn2 : n ≤ l + 1 := by omega
    rw [show (l : Int) + 1 = (n : Int) by omega]
    have HN := Lib.hid hn
    clear hn
    refine (cT _).mono ?_
    clear cT
    rintro e w2 ⟨g, M, hM, rfl, ho, hb2⟩
    have hB2 := hb1.trans (hb2.mono hb1.size)
    have hML : M.length = (2 * n) * (2 * n) := by rw [hM]; exact topM_len _
    have HM := Lib.hid hM
    have HML := Lib.hid hML
    clear hM hML
    go_wp2_with fail
    obtain ⟨w3, hw3⟩ : ∃ w3, w3 = w2.alloc (.cells #[.int .i64 n, .bool false, .slice (some ⟨g, 0, none⟩) M.length M.length] /-T-/26) := ⟨_, rfl⟩
    have hb3 : Below w2.heap.size w2 w3 := by rw [hw3]; exact (Below.refl _ _).alloc (Nat.le_refl _) _
    have hgl := ho.blockGe.2
    have hGr : Grow w w3 w2.heap.size n g M.length M :=
      ⟨by rw [hw3]; exact OctBox.new _ _ _ _ _, (ho.below hb3).lower hb1.size, by omega, rfl, hB2.trans (hb3.mono hB2.size), hB2.size⟩
    rw [← hw3]
    generalize M.length = L at *
    clear hw3 hb3 ho hb2 hB2 hb1 hd hgl
    generalize w2.heap.size = bO at *
    go_loopw [5, 6] (fun e' s' wr => ∃ v : Nat, s' = .int .i64 v ∧ v ≤ l ∧ e' = .int .i64 (sumW ws v) ∧ ∃ X : List Int, Hid (X = chnM n ws Nat.succ v) ∧ Grow w wr bO n g L X) (fun e s _ => l - (intOf s).toNat)
    case atStart => exact ⟨0, rfl, by omega, rfl, M, Lib.hid HM.out, hGr⟩
    case round =>
      obtain ⟨v, rfl, hv, rfl, X, HX, hR⟩ := hrel
      clear hGr HM
      rcases Nat.lt_or_ge v l with hlt | hge
      · have hx := HRX.out
        have hl := HSL.out
        clear HRX HSL
        have cB1 := fun (W : World) (h : Grow w W bO n g L X) => h.bound (by omega) HML.out (nth ws v) (show 2 * v < 2 * n by omega) (show 2 * Nat.succ v < 2 * n by omega) (by omega)
        rw [show ((2 * v : Nat) : Int) = 2 * (v : Int) by push_cast; rfl, show ((2 * Nat.succ v : Nat) : Int) = 2 * (v : Int) + 2 by push_cast; omega] at cB1
        have HS := Lib.hid (show boundM (2 * n) X (2 * v) (2 * Nat.succ v) (nth ws v) = chnM n ws Nat.succ (v + 1) by rw [HX.out]; rfl)
        have HE := Lib.hid (show sumW ws v + nth ws v = sumW ws (v + 1) from rfl)
        have sb := sumW_bd hl v
        generalize boundM (2 * n) X (2 * v) (2 * Nat.succ v) (nth ws v) = X1 at *
        obtain ⟨gh, oh, rfl, hgh, hch⟩ := hx (by omega)
        have kh0 := hch v (by omega)
        have kh : ∀ W : World, Below w.heap.size w W → W.cell? ⟨gh, oh + v, none⟩ = some (.int .i16 (nth ws v)) := fun W hb => (hb.cell (p := ⟨gh, oh + v, none⟩) hgh).trans kh0
        have s1 := hl v
        unfold small at s1
        clear kh0 hch hx hl
        generalize nth ws v = yh at *
        generalize sumW ws v = sv at *
        have q1 : (v : Int) < (l : Int) := by omega
        obtain ⟨p0, p1, p2⟩ := id hR.box.box
        have a0 := After.cell p0
        have a1 := After.cell p1
        have a2 := After.cell p2
        have a3 := After.cell (kh _ hR.below)
        clear p0 p1 p2
        go_wp2_with fail
        refine wp_region_mix [(11, 2)] (by kernel_rfl) (by kernel_rfl) ?_
        simp only [wpMix, List.take_succ_cons, List.take_zero, List.drop_succ_cons, List.drop_zero]
        repeat (go_big_quiet_step (fail))
        refine wpQuiet_nil ?_
        intro w6 hb6
        have hR6 := hR.go hb6
        clear hR hb6 a0 a1 a2 a3
        go_wp2_with fail
        refine (cB1 _ hR6).mono ?_
        rintro e w7 ⟨rfl, hR7⟩
        clear hR6 cB1
        obtain ⟨p0, p1, p2⟩ := id hR7.box.box
        have pf := hR7.box.fz
        have hP := Lib.hid hR7.put
        clear hR7
        go_wp2_with fail
        clear p0 p1 p2 pf
        refine mixQ_normal (wpQuiet_nil ?_)
        intro w8 hb8
        have hR8 := hP.out.go hb8
        clear hP hb8
        have ky := kh _ hR8.below
        go_wp2_with fail
        go_roundw
        case rel => exact ⟨v + 1, by go_num, by omega, by rw [HE.out], X1, Lib.hid HS.out, hR8⟩
        case measure => simp [intOf]; omega
      · have hvn : v = l := by omega
        subst hvn
        clear hge hv
        obtain ⟨Q, hQ⟩ : ∃ Q, Q = closeP n false X := ⟨_, rfl⟩
        have hlaw := chains_law (n := v) (w := ws) (by omega) HSL.out (Q := Q) (by rw [← HN.out, hQ, HX.out])
        have ht : ∀ k, k < v → Nat.succ k < n ∧ Nat.succ k ≠ k := fun k hk => ⟨by omega, by omega⟩
        have hck : chk n false X = 0 := by rw [HX.out]; exact chk_ok (by omega) (by rw [chnM_len, sq2]) (chn_ok HSL.out (by omega) ht)
        have hLn : (L : Int) ≤ 17592186043904 := by
          have := sq_le (n := n) (by omega)
          rw [HML.out, sq2]; omega
        have cC := close_CloseW n false (some ⟨g, 0, none⟩) L X wr (hR.row.oct (by unfold I64; omega) (chk_ints hck)) (by rw [hR.len]; exact hLn) Q hQ.symm
        rw [hR.len] at cC
        obtain ⟨⟨⟨Na, Ea, Ma⟩, sa⟩, ea⟩ := Q
        rw [← HN.out] at hlaw
        dsimp only at hlaw
        obtain ⟨rfl, rfl, rfl, rfl, hlm2, hup, hdn⟩ := hlaw
        clear hck hQ HX ht
        have HUp := Lib.hid hup
        have HDn := Lib.hid hdn
        have HLm := Lib.hid hlm2
        clear hup hdn hlm2
        obtain ⟨p0, p1, p2⟩ := id hR.box.box
        go_wp2_with fail
        refine cC.mono ?_
        clear cC
        rintro e w3 ⟨A2, c2, rfl, ho3, hb3⟩
        have hB3 := hR.below.trans (hb3.mono hR.below.size)
        clear hR p0 p1 p2 hb3
        dsimp only at ho3 ⊢
        obtain ⟨w4, hw4⟩ : ∃ w4, w4 = w3.alloc (.cells #[.int .i64 n, .bool false, .slice A2 Ma.length c2] /-T-/26) := ⟨_, rfl⟩
        have hP4 : OctAt w4 w3.heap.size n false (.slice A2 Ma.length c2) := by rw [hw4]; exact OctAt.box _ _ _ _ _
        have hb4 : Below w3.heap.size w3 w4 := by rw [hw4]; exact (Below.refl _ _).alloc (Nat.le_refl _) _
        have hr4 := (ho3.below hb4).rd
        have hB4 := hB3.trans (hb4.mono hB3.size)
        have hq4 : 4 * (n : Int) * (n : Int) = (Ma.length : Int) := by
          rw [HLm.out, sq2]; push_cast; rfl
        have hqb : Ma.length ≤ 26 * 26 := by rw [HLm.out]; exact Nat.mul_le_mul (by omega) (by omega)
        have hqe : ((Ma.length : Int) != (Ma.length : Int)) = false := bne_self_eq_false _
        generalize Ma.length = L2 at *
        obtain ⟨p0, p1, p2⟩ := id hP4
        rw [hw4] at p0 p1 p2
        go_wp2_with fail
        rw [← hw4]
        clear hw4 hb4 ho3 hB3 p0 p1 p2 hqe hq4
        generalize w3.heap.size = bC at *
        go_loopw [10] (fun e' wr => ∃ i : Nat, e' = .int .i64 i ∧ i ≤ n ∧ Below w4.heap.size w4 wr) (fun e _ => n - (intOf e).toNat)
        case atStart => exact ⟨0, rfl, by omega, Below.refl _ _⟩
        case round =>
          obtain ⟨i, rfl, hi, hW⟩ := hrel
          rcases Nat.lt_or_ge i n with hit | hig
          · have hq1 : (i : Int) < (n : Int) := by omega
            go_wp2_with fail
            go_loopw [11, 12] (fun e' s' wr' => ∃ j : Nat, s' = .int .i64 j ∧ i ≤ j ∧ j ≤ n ∧ e' = .int .i64 (sumW ws (min j v) - sumW ws i) ∧ Below w4.heap.size w4 wr') (fun e s _ => n - (intOf s).toNat)
            case atStart => exact ⟨i, rfl, Nat.le_refl _, by omega, by rw [Nat.min_eq_left (by omega), Int.sub_self], hW⟩
            case round =>
              obtain ⟨j, rfl, hij, hj, rfl, hW2⟩ := hrel
              clear hW
              rcases Nat.lt_or_ge j n with hjt | hjg
              · rw [Nat.min_eq_left (by omega)]
                have hq2 : (j : Int) < (n : Int) := by omega
                obtain ⟨gc, oc, rfl, hgc, hcell⟩ := hr4 (by rw [HLm.out]; exact Nat.lt_of_le_of_lt (Nat.zero_le _) (idx_lt (show 2 * i < 2 * n by omega) (show 2 * j < 2 * n by omega)))
                have hp1 : 2 * i * (2 * n) + 2 * j < L2 := by rw [HLm.out]; exact idx_lt (by omega) (by omega)
                have hp2 : 2 * j * (2 * n) + 2 * i < L2 := by rw [HLm.out]; exact idx_lt (by omega) (by omega)
                have k1 := (hW2.cell (p := ⟨gc, oc + (2 * i * (2 * n) + 2 * j), none⟩) hgc).trans (hcell _ hp1)
                have k2 := (hW2.cell (p := ⟨gc, oc + (2 * j * (2 * n) + 2 * i), none⟩) hgc).trans (hcell _ hp2)
                have v1 := HUp.out i j hij hjt
                have v2 := HDn.out i j
                unfold cl at v1 v2
                rw [v1] at k1
                have e1 : 2 * (i : Int) * 2 * (n : Int) = ((2 * i * (2 * n) : Nat) : Int) := by push_cast; rw [Int.mul_assoc (2 * (i : Int))]
                have e2 : 2 * (j : Int) * 2 * (n : Int) = ((2 * j * (2 * n) : Nat) : Int) := by push_cast; rw [Int.mul_assoc (2 * (j : Int))]
                have hb := sumW_bd HSL.out i
                have hb2 := sumW_bd HSL.out j
                have hT : Hid (j < v → sumW ws j - sumW ws i + nth ws j = sumW ws (min (j + 1) v) - sumW ws i) := Lib.hid fun h => by rw [Nat.min_eq_left (by omega), sumW_succ]; omega
                have hT2 : Hid (j = v → sumW ws j - sumW ws i = sumW ws (min (j + 1) v) - sumW ws i) := Lib.hid fun h => by rw [Nat.min_eq_right (by omega), h]
                have hTb : -900000 ≤ sumW ws j - sumW ws i ∧ sumW ws j - sumW ws i ≤ 900000 := by omega
                clear v1 hcell hb hb2
                generalize sumW ws j - sumW ws i = T at *
                generalize 2 * i * (2 * n) = P1 at *
                generalize 2 * j * (2 * n) = P2 at *
                obtain ⟨q0, q1, q2⟩ := id (hP4.below hW2)
                have hTT : (T != T) = false := bne_self_eq_false _
                have hend : Hid (Below w4.heap.size w4 wr) := Lib.hid hW2
                rcases Nat.lt_or_ge j v with hjv | hjv
                · obtain ⟨gx, ox, rfl, hgx, hcx⟩ := HRX.out (by omega)
                  have k3 := ((hB4.trans (hW2.mono hB4.size)).cell (p := ⟨gx, ox + j, none⟩) hgx).trans (hcx j hjv)
                  have s1 := HSL.out j
                  unfold small at s1
                  have hN := Lib.hid (hT.out hjv)
                  clear hcx hT hT2
                  generalize nth ws j = y at *
                  have hq3 : (j : Int) < (v : Int) := by omega
                  by_cases hlt : i < j
                  · rw [v2 hlt hjt] at k2
                    have hdl : decide ((i : Int) < (j : Int)) = true := decide_eq_true (by omega)
                    clear v2
                    go_wp2_with fail
                    go_roundw
                    case rel => exact ⟨j + 1, by go_num, by omega, by omega, by rw [hN.out], hend.out⟩
                    case measure => simp [intOf]; omega
                  · have hdl : decide ((i : Int) < (j : Int)) = false := decide_eq_false (by omega)
                    clear v2 k2
                    go_wp2_with fail
                    go_roundw
                    case rel => exact ⟨j + 1, by go_num, by omega, by omega, by rw [hN.out], hend.out⟩
                    case measure => simp [intOf]; omega
                · have hN := Lib.hid (hT2.out (by omega))
                  have hq3 : ¬ (j : Int) < (v : Int) := by omega
                  have hq4 : decide ((j : Int) < (v : Int)) = false := decide_eq_false hq3
                  clear hT hT2
                  by_cases hlt : i < j
                  · rw [v2 hlt hjt] at k2
                    have hdl : decide ((i : Int) < (j : Int)) = true := decide_eq_true (by omega)
                    clear v2
                    go_wp2_with fail
                    go_roundw
                    case rel => exact ⟨j + 1, by go_num, by omega, by omega, by rw [hN.out], hend.out⟩
                    case measure => simp [intOf]; omega
                  · have hdl : decide ((i : Int) < (j : Int)) = false := decide_eq_false (by omega)
                    clear v2 k2
                    go_wp2_with fail
                    go_roundw
                    case rel => exact ⟨j + 1, by go_num, by omega, by omega, by rw [hN.out], hend.out⟩
                    case measure => simp [intOf]; omega
              · have hjn : j = n := by omega
                have hdj : decide ((j : Int) < (n : Int)) = false := decide_eq_false (by omega)
                have hend : Hid (Below w4.heap.size w4 wr) := Lib.hid hW2
                clear hjn
                go_wp2_with fail
                go_roundw
                case rel => exact ⟨i + 1, by go_num, by omega, hend.out⟩
                case measure => simp [intOf]; omega
          · have hdi : decide ((i : Int) < (n : Int)) = false := decide_eq_false (by omega)
            have hend := Lib.hid (hB4.trans (hW.mono hB4.size))
            go_wp2_with fail
            go_ret
            exact ⟨rfl, hend.out⟩
  · have hd : decide ((12 : Int) < (ws.length : Int)) = true := decide_eq_true (by omega)
    clear hx hl hl12
    go_wp2_with fail
    go_ret
    exact ⟨rfl, hb1⟩
end Go.Proofs.Ytgganboepfikiaa
