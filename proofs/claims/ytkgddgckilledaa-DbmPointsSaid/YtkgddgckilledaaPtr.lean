/- gnomonref12.Points. -/
import Derived.Test.YtkgddgckilledaaPtw
namespace Go.Proofs.Ytkgddgckilledaa
open Go.RowKit
set_option linter.unusedVariables false
set_option linter.unusedSimpArgs false
open Gn
/-- What lies in the result's block. -/
structure Rq (w : World) (W : World) : Prop where
  res : OctBox W w.heap.size 0 false (.slice none 0 0)
  below : Below w.heap.size w W
  size : w.heap.size + 1 ≤ W.heap.size
theorem Rq.go {w W W' : World} (h : Rq w W) (hb : Below W.heap.size W W') : Rq w W' :=
  ⟨h.res.below hb, h.below.trans (hb.mono h.below.size), Nat.le_trans h.size hb.size⟩
structure Rg (w : World) (N : Int) (b base g q : Nat) (X : List Int) (W : World) : Prop where
  pq : Rq w W
  box : OctAt W b N false (.slice (some ⟨g, 0, none⟩) q q)
  row : Ow W base 2 .i64 (some ⟨g, 0, none⟩) q X
  len : X.length = q
  ne : b ≠ g
  hb : w.heap.size + 1 ≤ base
theorem Rg.go {w W W' : World} {N : Int} {b base g q : Nat} {X : List Int} (h : Rg w N b base g q X W) (hb : Below W.heap.size W W') : Rg w N b base g q X W' :=
  ⟨h.pq.go hb, h.box.below hb, h.row.below hb, h.len, h.ne, h.hb⟩
theorem Rg.set {w W : World} {N : Int} {b base g q : Nat} {X : List Int} (h : Rg w N b base g q X W) (p : Nat) (u : Int) : Rg w N b base g q (X.set p u) (W.setCell ⟨g, p, none⟩ (.int .i64 u)) := by
  have hg := only_setCell (World.grownBy.refl W (some g)) (p := ⟨g, p, none⟩) (.inl rfl) (.int .i64 u)
  have hge := h.row.blockGe.1
  have hhb := h.hb
  exact ⟨⟨h.pq.res.only hg (by omega), h.pq.below.setCell (by simp; omega) _, Nat.le_trans h.pq.size hg.size⟩, h.box.only hg h.ne, h.row.set' p u, by rw [List.length_set]; exact h.len, h.ne, h.hb⟩
set_option maxRecDepth 100000 in
set_option maxHeartbeats 16000000 in
theorem ref_Points (N : Int) (A : Option Addr) (c : Nat) (ls : List RowV) (w : World) (hr : RowsIn w w.heap.size A ls) (hl : (ls.length : Int) ≤ 1000000) (hNi : I64 N) (p : Int) (hp : pointsE N ls = p) (R : Int × Bool × List Int) (hR : pointsR N ls = R) :
    Calls Try.prog 15 #[.int .i64 N, .slice A ls.length c] w (TellsP w R p) := by
  obtain ⟨W, hW⟩ : ∃ W, W = w.alloc (.cells #[.int .i64 0, .bool false, .slice none 0 0] /-T-/24) := ⟨_, rfl⟩
  have hs : W.heap.size = w.heap.size + 1 := by rw [hW]; simp
  have hB : Below w.heap.size w W := by rw [hW]; exact (Below.refl _ _).alloc (Nat.le_refl _) _
  have hX : OctBox W w.heap.size 0 false (.slice none 0 0) := by rw [hW]; exact OctBox.new _ _ _ _ _
  have hQ : Rq w W := ⟨hX, hB, by omega⟩
  have HRl := Lib.hid hr
  have HP := Lib.hid hp
  have HR := Lib.hid hR
  clear hp hR hr hB hX hs
  have hlen : (ls.length : Int) ≤ 1000000 := hl
  go_enter Try.func15, Try.ntmps15
  by_cases hN : 0 ≤ N ∧ N ≤ 64
  · obtain ⟨n, rfl⟩ := Int.eq_ofNat_of_zero_le hN.1
    have hn : n ≤ 64 := by omega
    clear hN
    have g1 : ¬ (n : Int) < 0 := by omega
    have g2 : ¬ (n : Int) > 64 := by omega
    go_wp2_with fail
    rw [← hW]
    clear hW g1 g2
    go_loopw [6] (fun s wr => ∃ i : Nat, s = .int .i64 i ∧ i ≤ ls.length ∧ Hid (∀ j, j < i → ((rvAt ls j).x.length : Int) = n) ∧ W = wr) (fun s _ => ls.length - (intOf s).toNat)
    case atStart => exact ⟨0, rfl, by omega, Lib.hid (fun _ h => absurd h (by omega)), rfl⟩
    case round =>
      obtain ⟨i, rfl, hi, HK, rfl⟩ := hrel
      rcases Nat.lt_or_ge i ls.length with hlt | hge
      · have di : decide ((i : Int) < (ls.length : Int)) = true := decide_eq_true (by omega)
        have q1 : (i : Int) < (ls.length : Int) := by omega
        obtain ⟨g, off, rfl, hg, hx⟩ := (HRl.out.below hQ.below) (by omega)
        obtain ⟨hc, _, _, hxl⟩ := hx i hlt
        clear hx
        by_cases hne : ((rvAt ls i).x.length : Int) = n
        · have hd : (((rvAt ls i).x.length : Int) != (n : Int)) = false := bne_eq_false_iff_eq.2 hne
          have HL := Lib.hid hne
          clear hne
          go_wp2_with fail
          go_roundw
          case rel => exact ⟨i + 1, by go_num, by omega, Lib.hid (fun j hj => by
            rcases Nat.lt_or_ge j i with h | h
            · exact HK.out j h
            · obtain rfl : j = i := by omega
              exact HL.out), trivial⟩
          case measure => simp [intOf]; omega
        · have hd : (((rvAt ls i).x.length : Int) != (n : Int)) = true := bne_iff_ne.2 hne
          have hE : p = 120 := by rw [← HP.out]; unfold pointsE; rw [if_pos (.inr (badL_at hlt hne))]
          have hR2 : R = (0, false, []) := by rw [← HR.out]; unfold pointsR; rw [HP.out, if_neg (by omega)]
          subst hE hR2
          clear HP HR HRl hne
          have hs2 := hQ.size
          obtain ⟨⟨r0, r1, r2⟩, fr⟩ := id hQ.res
          have hS := Lib.hid (hQ.res.fin hQ.below (Nat.le_refl _) 0 false (.slice none 0 0))
          have hO := Lib.hid ((Ow.nil W (w.heap.size + 1) 2 .i64).lay3 (b := w.heap.size) (by omega) (.int .i64 0) (.bool false) (.slice none 0 0))
          clear hQ
          go_wp2_with fail
          obtain ⟨⟨s0, s1, s2⟩, hB3⟩ := hS.out
          exact bodyPost_ret (v := .tuple #[.agg #[.int .i64 0, .bool false, .slice none 0 0], .int .i64 120]) (by simp [results, Try.results15, go_sem, r0, r1, r2]) rfl ⟨none, 0, rfl, hO.out.lower (by omega), hB3⟩
      · obtain rfl : i = ls.length := by omega
        have di : decide ((ls.length : Int) < (ls.length : Int)) = false := decide_eq_false (by omega)
        have hbb : badL n ls = false := badL_none HK.out
        have hE : p = 0 := by rw [← HP.out]; unfold pointsE; rw [hbb, if_neg (by simp; omega)]
        have hR2 : R = pointsP n ls := by rw [← HR.out]; unfold pointsR; rw [HP.out, if_pos hE]; rfl
        subst hE
        have HR2 := Lib.hid hR2
        have HBb := Lib.hid hbb
        clear HP HR hR2 hbb
        by_cases h0 : ls.length = 0
        · have hR3 : R = ((n : Int), true, []) := by rw [HR2.out]; unfold pointsP; rw [if_pos h0]
          subst hR3
          have hd : ((ls.length : Int) == 0) = true := by rw [h0]; rfl
          have cE := ref_Empty n W
          clear HR2 HBb HRl HK
          have h00 := Lib.hid h0
          clear h0
          go_wp2_with fail
          refine cE.mono ?_
          clear cE
          rintro e w2 ⟨rfl, hb2⟩
          have hQ2 := hQ.go hb2
          have hs2 := hQ2.size
          clear hQ hb2
          obtain ⟨⟨r0, r1, r2⟩, fr⟩ := id hQ2.res
          have hS := Lib.hid (hQ2.res.fin hQ2.below (Nat.le_refl _) n true (.slice none 0 0))
          have hO := Lib.hid ((Ow.nil w2 (w.heap.size + 1) 2 .i64).lay3 (b := w.heap.size) (by omega) (.int .i64 n) (.bool true) (.slice none 0 0))
          clear hQ2
          go_wp2_with fail
          obtain ⟨⟨s0, s1, s2⟩, hB3⟩ := hS.out
          exact bodyPost_ret (v := .tuple #[.agg #[.int .i64 n, .bool true, .slice none 0 0], .int .i64 0]) (by simp [results, Try.results15, go_sem, r0, r1, r2]) rfl ⟨none, 0, rfl, hO.out.lower (by omega), hB3⟩
        · have hd : ((ls.length : Int) == 0) = false := beq_eq_false_iff_ne.2 (by omega)
          have hR3 := Lib.hid (show R = ((n : Int), false, tabM (2 * n) (bestV ls)) by rw [HR2.out]; unfold pointsP; rw [if_neg h0])
          have HPos := Lib.hid (show 0 < ls.length by omega)
          have HNe := Lib.hid (show ls ≠ [] from fun e => h0 (by rw [e]; rfl))
          have cT := ref_Top n W hn
          clear HR2 h0 HK
          go_wp2_with fail
          refine cT.mono ?_
          clear cT
          rintro e w2 ⟨g, M, hM, rfl, ho2, hb2⟩
          have hMl : M.length = (2 * n) * (2 * n) := by rw [hM, topM_len]
          have hq : M.length ≤ 16384 := by rw [hMl, sq2]; exact sq_le hn
          have HMd := Lib.hid (show ∀ i, i < 2 * n → cl (2 * n) M i i = 0 from fun i hi => by rw [hM]; unfold topM; rw [cl_mat hi hi, if_pos rfl])
          clear hM
          obtain ⟨w3, hw3⟩ : ∃ w3, w3 = w2.alloc (.cells #[.int .i64 n, .bool false, .slice (some ⟨g, 0, none⟩) M.length M.length] /-T-/24) := ⟨_, rfl⟩
          have hb3 : Below W.heap.size W w3 := by rw [hw3]; exact hb2.alloc hb2.size _
          have hgl := ho2.blockGe.2
          have hP3 : Rg w n w2.heap.size W.heap.size g M.length M w3 := ⟨hQ.go hb3, by rw [hw3]; exact OctAt.box _ _ _ _ _, by rw [hw3]; exact ho2.alloc _, rfl, by omega, hQ.size⟩
          have HMl := Lib.hid hMl
          clear hQ ho2 hb2 hb3 hgl hMl
          go_wp2_with fail
          rw [← hw3]
          clear hw3
          generalize w2.heap.size = bO at *
          generalize W.heap.size = e1 at *
          generalize hqq : M.length = q at *
          have HQ := Lib.hid hqq
          clear hqq
          have HLq := Lib.hid (show q = (2 * n) * (2 * n) from HMl.out)
          go_loopw [8] (fun s wr => ∃ i : Nat, s = .int .i64 i ∧ i ≤ 2 * n ∧ ∃ X : List Int, Hid (X = gI (2 * n) (bestV ls) i M) ∧ Rg w n bO e1 g q X wr) (fun s _ => 2 * n - (intOf s).toNat)
          case atStart => exact ⟨0, rfl, by omega, M, Lib.hid rfl, hP3⟩
          case round =>
            obtain ⟨i, rfl, hi, X, HX, hS⟩ := hrel
            clear hP3
            rcases Nat.lt_or_ge i (2 * n) with hit | hige
            · have di : decide ((i : Int) < 2 * (n : Int)) = true := decide_eq_true (by omega)
              go_wp2_with fail
              go_loopw [9] (fun s wr => ∃ j : Nat, s = .int .i64 j ∧ j ≤ 2 * n ∧ ∃ Y : List Int, Hid (Y = gJ (2 * n) (bestV ls) i j X) ∧ Rg w n bO e1 g q Y wr) (fun s _ => 2 * n - (intOf s).toNat)
              case atStart => exact ⟨0, rfl, by omega, X, Lib.hid rfl, hS⟩
              case round =>
                clear hS
                obtain ⟨j, rfl, hj, Y, HY, hS⟩ := hrel
                rcases Nat.lt_or_ge j (2 * n) with hjt | hjge
                · have dj : decide ((j : Int) < 2 * (n : Int)) = true := decide_eq_true (by omega)
                  have hst0 : gJ (2 * n) (bestV ls) i (j + 1) X = if i = j then Y else Y.set (i * (2 * n) + j) (bestV ls i j) := by rw [HY.out]; rfl
                  by_cases hij : i = j
                  · have dij : ((i : Int) == (j : Int)) = true := by rw [hij]; exact beq_self_eq_true _
                    have HJ := Lib.hid (show gJ (2 * n) (bestV ls) i (j + 1) X = Y by rw [hst0, if_pos hij])
                    clear hst0 hij
                    go_wp2_with fail
                    go_roundw
                    case rel => exact ⟨j + 1, by go_num, by omega, Y, Lib.hid HJ.out.symm, hS⟩
                    case measure => simp [intOf]; omega
                  · have dij : ((i : Int) == (j : Int)) = false := beq_eq_false_iff_ne.2 (by omega)
                    have HJ := Lib.hid (show gJ (2 * n) (bestV ls) i (j + 1) X = Y.set (i * (2 * n) + j) (bestV (ls.take ls.length) i j) by rw [hst0, if_neg hij, List.take_length])
                    have hb0 : bestV (ls.take 0) i j = -4611686018427387904 := rfl
                    clear hst0 hij
                    go_wp2_with fail
                    clear dij
                    go_loopw [11, 10] (fun s m wr => ∃ k : Nat, s = .int .i64 k ∧ k ≤ ls.length ∧ m = .int .i64 (bestV (ls.take k) i j) ∧ Rg w n bO e1 g q Y wr) (fun s _ _ => ls.length - (intOf s).toNat)
                    case atStart => exact ⟨0, rfl, by omega, by rw [hb0], hS⟩
                    case round =>
                      clear hS
                      obtain ⟨k, rfl, hk, hm, hS⟩ := hrel
                      subst hm
                      rcases Nat.lt_or_ge k ls.length with hkt | hkge
                      · have dk : decide ((k : Int) < (ls.length : Int)) = true := decide_eq_true (by omega)
                        have q1 : (k : Int) < (ls.length : Int) := by omega
                        obtain ⟨gl, off, rfl, hgl, hx⟩ := (HRl.out.below hS.pq.below) HPos.out
                        obtain ⟨hc, hrd, hxi, hxl⟩ := hx k hkt
                        have hxn : (rvAt ls k).x.length = n := by have := badL_false HBb.out hkt; omega
                        have hi2 : i / 2 < (rvAt ls k).x.length := by omega
                        have hj2 : j / 2 < (rvAt ls k).x.length := by omega
                        have cA := ref_Diff (rvAt ls k).A (rvAt ls k).c (rvAt ls k).x i j wr (hrd.more (by have := hS.pq.size; omega)) hxi hi2 hj2 hxl (by omega) (by omega)
                        have HM := Lib.hid (show bestV (ls.take (k + 1)) i j = if diffF (apartV (rvAt ls k).x i j) > 0 then 9223372036854775807 else if diffF (apartV (rvAt ls k).x i j) = 0 then max (bestV (ls.take k) i j) (diffV (apartV (rvAt ls k).x i j)) else bestV (ls.take k) i j by rw [bestV_take hkt, diff_best (bestV_bd _ _ _)])
                        clear hx hrd hxi hxl hxn hi2 hj2
                        generalize bestV (ls.take k) i j = m0 at *
                        generalize diffF (apartV (rvAt ls k).x i j) = F at *
                        generalize diffV (apartV (rvAt ls k).x i j) = D at *
                        generalize (rvAt ls k).x.length = Ln at *
                        generalize (rvAt ls k).A = Ai at *
                        generalize (rvAt ls k).c = ci at *
                        go_wp2_with fail
                        refine cA.mono ?_
                        clear cA
                        rintro e w5 ⟨rfl, hb5⟩
                        have hS5 := Lib.hid (hS.go hb5)
                        clear hS hb5 hc
                        by_cases hF : F > 0
                        · have dF : decide (F > 0) = true := decide_eq_true hF
                          have dF2 : (F == 0) = false := beq_eq_false_iff_ne.2 (by omega)
                          have HM2 := Lib.hid (show bestV (ls.take (k + 1)) i j = 9223372036854775807 by rw [HM.out, if_pos hF])
                          clear HM hF
                          go_wp2_with fail
                          go_roundw
                          case rel => exact ⟨k + 1, by go_num, by omega, by rw [HM2.out], hS5.out⟩
                          case measure => simp [intOf]; omega
                        · have dF : decide (F > 0) = false := decide_eq_false hF
                          by_cases hF0 : F = 0
                          · have dF2 : (F == 0) = true := by rw [hF0]; rfl
                            by_cases hmc : m0 < D
                            · have HM2 := Lib.hid (show bestV (ls.take (k + 1)) i j = D by rw [HM.out, if_neg hF, if_pos hF0]; omega)
                              clear HM hF hF0
                              go_wp2_with fail
                              go_roundw
                              case rel => exact ⟨k + 1, by go_num, by omega, by rw [HM2.out], hS5.out⟩
                              case measure => simp [intOf]; omega
                            · have HM2 := Lib.hid (show bestV (ls.take (k + 1)) i j = m0 by rw [HM.out, if_neg hF, if_pos hF0]; omega)
                              clear HM hF hF0
                              go_wp2_with fail
                              go_roundw
                              case rel => exact ⟨k + 1, by go_num, by omega, by rw [HM2.out], hS5.out⟩
                              case measure => simp [intOf]; omega
                          · have dF2 : (F == 0) = false := beq_eq_false_iff_ne.2 hF0
                            have HM2 := Lib.hid (show bestV (ls.take (k + 1)) i j = m0 by rw [HM.out, if_neg hF, if_neg hF0])
                            clear HM hF hF0
                            go_wp2_with fail
                            go_roundw
                            case rel => exact ⟨k + 1, by go_num, by omega, by rw [HM2.out], hS5.out⟩
                            case measure => simp [intOf]; omega
                      · obtain rfl : k = ls.length := by omega
                        have dk : decide ((ls.length : Int) < (ls.length : Int)) = false := decide_eq_false (by omega)
                        have hp1 : i * (2 * n) + j < q := by rw [HLq.out]; exact idx_lt hit hjt
                        have ei : (i : Int) * 2 * (n : Int) = ((i * (2 * n) : Nat) : Int) := by push_cast; rw [Int.mul_assoc]
                        have kk := hS.row.cellAt (i := i * (2 * n) + j) (by rw [hS.len]; exact hp1)
                        have kf := hS.row.frozenAt (i * (2 * n) + j)
                        obtain ⟨k0, k1, k2⟩ := id hS.box
                        generalize bestV (ls.take ls.length) i j = bv at *
                        have hP := Lib.hid (hS.set (i * (2 * n) + j) bv)
                        generalize nth Y (i * (2 * n) + j) = y0 at *
                        generalize i * (2 * n) = pi at *
                        have q1 : (pi : Int) + (j : Int) < (q : Int) := by omega
                        clear hS
                        go_wp2_with fail
                        go_roundw
                        case rel => exact ⟨j + 1, by go_num, by omega, _, Lib.hid HJ.out.symm, hP.out⟩
                        case measure => simp [intOf]; omega
                · obtain rfl : j = 2 * n := by omega
                  go_wp2_with fail
                  go_roundw
                  case rel => exact ⟨i + 1, by go_num, by omega, Y, Lib.hid (by rw [HY.out, HX.out]; rfl), hS⟩
                  case measure => simp [intOf]; omega
            · have hii : i = 2 * n := by omega
              have dk : decide ((i : Int) < 2 * (n : Int)) = false := decide_eq_false (by omega)
              have hX2 := Lib.hid (show X = tabM (2 * n) (bestV ls) by rw [HX.out, hii]; exact gI_tab (HQ.out.trans HLq.out) (fun a ha => by rw [HMd.out a ha, bestV_self HNe.out]))
              clear HX hii
              have hXl := Lib.hid hS.len
              have hs2 := hS.pq.size
              have hhb := hS.hb
              obtain ⟨k0, k1, k2⟩ := id hS.box
              obtain ⟨⟨r0, r1, r2⟩, fr⟩ := id hS.pq.res
              have hF := Lib.hid (hS.pq.res.fin hS.pq.below (Nat.le_refl _) n false (.slice (some ⟨g, 0, none⟩) q q))
              have hO := Lib.hid (hS.row.lay3 (b := w.heap.size) (by omega) (.int .i64 n) (.bool false) (.slice (some ⟨g, 0, none⟩) q q))
              clear hS
              go_wp2_with fail
              obtain ⟨⟨s0, s1, s2⟩, hB3⟩ := hF.out
              refine bodyPost_ret (v := .tuple #[.agg #[.int .i64 n, .bool false, .slice (some ⟨g, 0, none⟩) q q], .int .i64 0]) (by simp [results, Try.results15, go_sem, r0, r1, r2]) rfl ?_
              rw [hR3.out, ← hX2.out]
              exact ⟨some ⟨g, 0, none⟩, q, by rw [hXl.out], hO.out.lower (by omega), hB3⟩
  · have hE : p = 120 := by rw [← HP.out]; unfold pointsE; rw [if_pos (.inl (by omega))]
    have hR2 : R = (0, false, []) := by rw [← HR.out]; unfold pointsR; rw [HP.out, if_neg (by omega)]
    subst hE hR2
    clear HP HR HRl
    have hs2 := hQ.size
    obtain ⟨⟨r0, r1, r2⟩, fr⟩ := id hQ.res
    have hS := Lib.hid (hQ.res.fin hQ.below (Nat.le_refl _) 0 false (.slice none 0 0))
    have hO := Lib.hid ((Ow.nil W (w.heap.size + 1) 2 .i64).lay3 (b := w.heap.size) (by omega) (.int .i64 0) (.bool false) (.slice none 0 0))
    clear hQ
    by_cases hN0 : N < 0
    · go_upto_region 2 with fail
      rw [← hW]
      clear hW
      go_wp2_with fail
      obtain ⟨⟨s0, s1, s2⟩, hB3⟩ := hS.out
      exact bodyPost_ret (v := .tuple #[.agg #[.int .i64 0, .bool false, .slice none 0 0], .int .i64 120]) (by simp [results, Try.results15, go_sem, r0, r1, r2]) rfl ⟨none, 0, rfl, hO.out.lower (by omega), hB3⟩
    · have hN1 : N > 64 := by omega
      clear hN
      go_upto_region 2 with fail
      rw [← hW]
      clear hW
      go_wp2_with fail
      obtain ⟨⟨s0, s1, s2⟩, hB3⟩ := hS.out
      exact bodyPost_ret (v := .tuple #[.agg #[.int .i64 0, .bool false, .slice none 0 0], .int .i64 120]) (by simp [results, Try.results15, go_sem, r0, r1, r2]) rfl ⟨none, 0, rfl, hO.out.lower (by omega), hB3⟩
end Go.Proofs.Ytkgddgckilledaa
