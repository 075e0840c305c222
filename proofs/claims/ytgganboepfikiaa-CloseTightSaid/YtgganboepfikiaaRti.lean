/- The walk of the statement CloseTight. -/
import Derived.Test.YtgganboepfikiaaCcl
import Derived.Test.YtgganboepfikiaaCti
import Derived.Test.YtgganboepfikiaaObx
import Derived.Test.YtgganboepfikiaaHau
namespace Go.Proofs.Ytgganboepfikiaa
open Go.RowKit
set_option linter.unusedVariables false
set_option linter.unusedSimpArgs false
open Gn
theorem Gn.i8_wf {x : Int} (h : (Lit.int .i8 x).wf = true) : tiny x := by
  simp [Lit.wf, IntKind.min, IntKind.max, IntKind.signed, IntKind.bits] at h
  exact ⟨by omega, by omega⟩
theorem Gn.tiny_nth {xs : List Int} (h : ∀ x ∈ xs, tiny x) (v : Nat) : tiny (nth xs v) := by
  by_cases hv : v < xs.length
  · exact h _ (nth_mem hv)
  · unfold nth
    rw [List.getD_eq_getElem?_getD, List.getElem?_eq_none (by omega)]
    exact ⟨by decide, by decide⟩
set_option maxRecDepth 100000 in
set_option maxHeartbeats 40000000 in
theorem law_CloseTight (bs : List Int) (w : World) (hl : bs.length = 12) (hb0 : ∀ v ∈ bs, tiny v) :
    Calls Try.prog 6 #[.agg (bs.map (Value.int .i8)).toArray] w fun e w' => e = .returned (.bool true) ∧ Below w.heap.size w w' := by
  obtain ⟨W, hW⟩ : ∃ W, W = w.alloc (.cells (bs.map (Value.int .i8)).toArray 39) := ⟨_, rfl⟩
  have cK := known13 W
  have HL := Lib.hid hl
  clear hl
  go_enter Try.func6, Try.ntmps6
  go_wp2_with fail
  have hO := Ow.lit w w.heap.size 39 .i8 bs (Nat.le_refl _) (by rw [HL.out]; decide)
  rw [← hW] at hO ⊢
  have hBW : Below w.heap.size w W := by rw [hW]; exact (Below.refl _ _).alloc (Nat.le_refl _) _
  clear hW
  refine cK.mono ?_
  clear cK
  rintro e w1 ⟨rfl, hb1⟩
  have hO1 := hO.below hb1
  have hB1 := hBW.trans (hb1.mono hBW.size)
  clear hO hBW hb1
  generalize hbx : w.heap.size = bx at *
  have hbl : bx ≤ w1.heap.size := by rw [← hbx]; exact hB1.size
  have HBX := Lib.hid hbx
  clear hbx
  have cT := fun W => ref_Top 2 W (by omega)
  have E2 : ((2 : Nat) : Int) = 2 := rfl
  have E4 : 2 * 2 = 4 := rfl
  rw [E2, E4] at cT
  go_wp2_with fail
  refine (cT _).mono ?_
  rintro e w2 ⟨g, M, hM, rfl, ho, hb2⟩
  have hML : M.length = (2 * 2) * (2 * 2) := by rw [hM]; exact topM_len _
  have HM := Lib.hid hM
  have HML := Lib.hid hML
  clear hM hML
  go_wp2_with fail
  obtain ⟨w3, hw3⟩ : ∃ w3, w3 = w2.alloc (.cells #[.int .i64 2, .bool false, .slice (some ⟨g, 0, none⟩) M.length M.length] /-T-/26) := ⟨_, rfl⟩
  have hb3 : Below w2.heap.size w2 w3 := by rw [hw3]; exact (Below.refl _ _).alloc (Nat.le_refl _) _
  have hs3 : w2.heap.size < w3.heap.size := by rw [hw3]; simp
  obtain ⟨w4, hw4⟩ : ∃ w4, w4 = w3.alloc (.cells (([0, 1, 1, 0, 2, 3, 3, 2, 0, 2, 0, 3] : List Int).map (Value.int .i64)).toArray /-T-/41) := ⟨_, rfl⟩
  have hb4 : Below w3.heap.size w3 w4 := by rw [hw4]; exact (Below.refl _ _).alloc (Nat.le_refl _) _
  have hgl := ho.blockGe.2
  have hGr : Grow w1 w4 w2.heap.size 2 g M.length M :=
    ⟨OctBox.below (by rw [hw3]; exact OctBox.new _ _ _ _ _) hb4, (ho.below hb3).below hb4, by omega, rfl, (hb2.trans (hb3.mono hb2.size)).trans (hb4.mono (Nat.le_trans hb2.size hb3.size)), hb2.size⟩
  have hTl : Tab w4 w3.heap.size [0, 1, 1, 0, 2, 3, 3, 2, 0, 2, 0, 3] := by rw [hw4]; exact Tab.new _ _ _
  have hn1 : w3.heap.size ≠ w2.heap.size := by omega
  have hn2 : w3.heap.size ≠ g := by omega
  have hw4' : (w3.alloc (Obj.cells #[Value.int IntKind.i64 0, Value.int IntKind.i64 1, Value.int IntKind.i64 1, Value.int IntKind.i64 0, Value.int IntKind.i64 2, Value.int IntKind.i64 3, Value.int IntKind.i64 3, Value.int IntKind.i64 2, Value.int IntKind.i64 0, Value.int IntKind.i64 2, Value.int IntKind.i64 0, Value.int IntKind.i64 3] /-T-/41)) = w4 := hw4.symm
  have hL3 : w3.heap.size = w2.heap.size + 1 := by rw [hw3]; simp
  rw [hL3] at hTl hn1 hn2
  rw [← hw3, hw4']
  generalize M.length = L at *
  clear hw3 hw4 hw4' hb3 hb4 ho hb2 hgl hs3 hL3
  generalize w2.heap.size + 1 = bL at *
  generalize w2.heap.size = bO at *
  have hb := fun v => (tiny_nth hb0 v)
  go_loopw [5] (fun e' wr => ∃ v : Nat, e' = .int .i64 v ∧ v ≤ 4 ∧ ∃ X : List Int, Hid (X = tiA bs v) ∧ Grow w1 wr bO 2 g L X ∧ Tab wr bL [0, 1, 1, 0, 2, 3, 3, 2, 0, 2, 0, 3]) (fun e _ => 4 - (intOf e).toNat)
  case atStart => exact ⟨0, rfl, by omega, M, Lib.hid HM.out, hGr, hTl⟩
  case round =>
    obtain ⟨v, rfl, hv, X, HX, hR, hT⟩ := hrel
    clear hGr hTl HM
    rcases Nat.lt_or_ge v 4 with hlt | hge
    · have t := tA_in v hlt
      have hlv : v < bs.length := by rw [HL.out]; omega
      have cB1 := fun (W : World) (h : Grow w1 W bO 2 g L X) => h.bound2 (by omega) HML.out (min (nth bs v) 12) (show (tA v).1 < 2 * 2 from t.1) (show (tA v).2 < 2 * 2 from t.2.1) t.2.2
      rw [E2, show min (nth bs v) 12 = if 12 < nth bs v then 12 else nth bs v by omega] at cB1
      have HS := Lib.hid (show boundM (2 * 2) X (tA v).1 (tA v).2 (min (nth bs v) 12) = tiA bs (v + 1) by rw [HX.out]; rfl)
      rw [show min (nth bs v) 12 = if 12 < nth bs v then 12 else nth bs v by omega] at HS
      have x1 : nth [0, 1, 1, 0, 2, 3, 3, 2, 0, 2, 0, 3] (v * 2) = ((tA v).1 : Int) := by rcases (show v = 0 ∨ v = 1 ∨ v = 2 ∨ v = 3 by omega) with rfl | rfl | rfl | rfl <;> rfl
      have x2 : nth [0, 1, 1, 0, 2, 3, 3, 2, 0, 2, 0, 3] (v * 2 + 1) = ((tA v).2 : Int) := by rcases (show v = 0 ∨ v = 1 ∨ v = 2 ∨ v = 3 by omega) with rfl | rfl | rfl | rfl <;> rfl
      have kT : ∀ W : World, Tab W bL [0, 1, 1, 0, 2, 3, 3, 2, 0, 2, 0, 3] → W.cell? ⟨bL, v * 2, none⟩ = some (.int .i64 ((tA v).1 : Int)) ∧ W.cell? ⟨bL, v * 2 + 1, none⟩ = some (.int .i64 ((tA v).2 : Int)) := fun W h =>
        ⟨by rw [h (v * 2) (by simp; omega), x1], by rw [h (v * 2 + 1) (by simp; omega), x2]⟩
      have hbx2 : bx < w1.heap.size := hO1.blockGe.2
      have kB0 := hO1.cellAt hlv
      have kB : ∀ W : World, Below w1.heap.size w1 W → W.cell? ⟨bx, v, none⟩ = some (.int .i8 (nth bs v)) := fun W h => (h.cell (p := ⟨bx, v, none⟩) hbx2).trans kB0
      have hs := hb v
      unfold tiny at hs
      clear t x1 x2 kB0
      generalize boundM (2 * 2) X (tA v).1 (tA v).2 (if 12 < nth bs v then 12 else nth bs v) = X1 at *
      generalize (tA v).1 = i1 at *
      generalize (tA v).2 = i2 at *
      generalize nth bs v = y at *
      have q1 : (v : Int) < 4 := by omega
      obtain ⟨p0, p1, p2⟩ := id hR.box.box
      rw [E2] at p0
      have a0 := After.cell p0
      have a1 := After.cell p1
      have a2 := After.cell p2
      have a3 := After.cell (kB _ hR.below)
      have a4 := After.cell (kT _ hT).1
      have a5 := After.cell (kT _ hT).2
      clear p0 p1 p2
      go_wp2_with fail
      refine wp_region_mix [(14, 2)] (by kernel_rfl) (by kernel_rfl) ?_
      simp only [wpMix, List.take_succ_cons, List.take_zero, List.drop_succ_cons, List.drop_zero]
      repeat (go_big_quiet_step (fail))
      refine wpQuiet_nil ?_
      intro w6 hb6
      have hR6 := hR.go hb6
      have hT6 := hT.go hb6
      clear hR hT hb6 a0 a1 a2 a3 a4 a5
      generalize (if 12 < y then 12 else y) = z at *
      go_wp2_with fail
      refine (cB1 _ hR6).mono ?_
      rintro e w7 ⟨rfl, hR7, hG7⟩
      have hT7 := hT6.only hG7 hn2
      clear hR6 hT6 hG7 cB1
      obtain ⟨p0, p1, p2⟩ := id hR7.box.box
      rw [E2] at p0
      have pf := hR7.box.fz
      have hP := Lib.hid hR7.put
      have hPT := Lib.hid (Tab.put hR7 hT7 hn1)
      rw [E2] at hP hPT
      clear hR7 hT7
      go_wp2_with fail
      clear p0 p1 p2 pf
      refine mixQ_normal (wpQuiet_nil ?_)
      intro w8 hb8
      have hR8 := hP.out.go hb8
      have hT8 := hPT.out.go hb8
      clear hP hPT hb8
      go_wp2_with fail
      go_roundw
      case rel => exact ⟨v + 1, by go_num, by omega, X1, Lib.hid HS.out, hR8, hT8⟩
      case measure => simp [intOf]; omega
    · have hv4 : v = 4 := by omega
      have HX := Lib.hid (show X = tiA bs 4 by rw [HX.out, hv4])
      have hdv : decide ((v : Int) < 4) = false := decide_eq_false (by omega)
      clear hge hv hT hv4
      go_wp2_with fail
      obtain ⟨w5, hw5⟩ : ∃ w5, w5 = wr.alloc (.cells (([0, 2, 2, 0, 0, 3, 1, 2] : List Int).map (Value.int .i64)).toArray /-T-/42) := ⟨_, rfl⟩
      have hb5 : Below wr.heap.size wr w5 := by rw [hw5]; exact (Below.refl _ _).alloc (Nat.le_refl _) _
      have hGr := hR.go hb5
      have hTl : Tab w5 wr.heap.size [0, 2, 2, 0, 0, 3, 1, 2] := by rw [hw5]; exact Tab.new _ _ _
      have hn1 : wr.heap.size ≠ bO := by have := hR.box.lt; omega
      have hn2 : wr.heap.size ≠ g := by have := hR.row.blockGe.2; omega
      have hw5' : (wr.alloc (Obj.cells #[Value.int IntKind.i64 0, Value.int IntKind.i64 2, Value.int IntKind.i64 2, Value.int IntKind.i64 0, Value.int IntKind.i64 0, Value.int IntKind.i64 3, Value.int IntKind.i64 1, Value.int IntKind.i64 2] /-T-/42)) = w5 := hw5.symm
      rw [hw5']
      clear hw5 hw5' hb5 hR
      generalize wr.heap.size = bM at *
      go_loopw [7] (fun e' wr' => ∃ v : Nat, e' = .int .i64 v ∧ v ≤ 4 ∧ ∃ X : List Int, Hid (X = tiM bs v) ∧ Grow w1 wr' bO 2 g L X ∧ Tab wr' bM [0, 2, 2, 0, 0, 3, 1, 2]) (fun e _ => 4 - (intOf e).toNat)
      case atStart => exact ⟨0, rfl, by omega, X, Lib.hid HX.out, hGr, hTl⟩
      case round =>
        clear HX hGr hTl
        obtain ⟨v, rfl, hv, X, HX, hR, hT⟩ := hrel
        rcases Nat.lt_or_ge v 4 with hlt | hge
        · have t := tB_in v hlt
          have cB1 := fun (W : World) (h : Grow w1 W bO 2 g L X) => h.bound2 (by omega) HML.out (nth bs (4 + v)) (show (tB v).1 < 2 * 2 from t.1) (show (tB v).2 < 2 * 2 from t.2.1) t.2.2
          rw [E2] at cB1
          have HS := Lib.hid (show (if 0 ≤ nth bs (8 + v) then boundM (2 * 2) X (tB v).1 (tB v).2 (nth bs (4 + v)) else X) = tiM bs (v + 1) by rw [HX.out]; rfl)
          have x1 : nth [0, 2, 2, 0, 0, 3, 1, 2] (v * 2) = ((tB v).1 : Int) := by rcases (show v = 0 ∨ v = 1 ∨ v = 2 ∨ v = 3 by omega) with rfl | rfl | rfl | rfl <;> rfl
          have x2 : nth [0, 2, 2, 0, 0, 3, 1, 2] (v * 2 + 1) = ((tB v).2 : Int) := by rcases (show v = 0 ∨ v = 1 ∨ v = 2 ∨ v = 3 by omega) with rfl | rfl | rfl | rfl <;> rfl
          have kT : ∀ W : World, Tab W bM [0, 2, 2, 0, 0, 3, 1, 2] → W.cell? ⟨bM, v * 2, none⟩ = some (.int .i64 ((tB v).1 : Int)) ∧ W.cell? ⟨bM, v * 2 + 1, none⟩ = some (.int .i64 ((tB v).2 : Int)) := fun W h =>
            ⟨by rw [h (v * 2) (by simp; omega), x1], by rw [h (v * 2 + 1) (by simp; omega), x2]⟩
          have hbx2 : bx < w1.heap.size := hO1.blockGe.2
          have kB0 := hO1.cellAt (i := 4 + v) (by rw [HL.out]; omega)
          have kC0 := hO1.cellAt (i := 8 + v) (by rw [HL.out]; omega)
          have kB : ∀ W : World, Below w1.heap.size w1 W → W.cell? ⟨bx, 4 + v, none⟩ = some (.int .i8 (nth bs (4 + v))) := fun W h => (h.cell (p := ⟨bx, 4 + v, none⟩) hbx2).trans kB0
          have kC : ∀ W : World, Below w1.heap.size w1 W → W.cell? ⟨bx, 8 + v, none⟩ = some (.int .i8 (nth bs (8 + v))) := fun W h => (h.cell (p := ⟨bx, 8 + v, none⟩) hbx2).trans kC0
          have hs := hb (4 + v)
          have hs2 := hb (8 + v)
          unfold tiny at hs hs2
          clear t x1 x2 kB0 kC0
          generalize boundM (2 * 2) X (tB v).1 (tB v).2 (nth bs (4 + v)) = X1 at *
          generalize (tB v).1 = i1 at *
          generalize (tB v).2 = i2 at *
          generalize nth bs (4 + v) = y at *
          generalize nth bs (8 + v) = z at *
          have q1 : (v : Int) < 4 := by omega
          obtain ⟨p0, p1, p2⟩ := id hR.box.box
          rw [E2] at p0
          have a0 := After.cell p0
          have a1 := After.cell p1
          have a2 := After.cell p2
          have a3 := After.cell (kB _ hR.below)
          have a4 := After.cell (kT _ hT).1
          have a5 := After.cell (kT _ hT).2
          have kz := kC _ hR.below
          clear p0 p1 p2
          by_cases hz : 0 ≤ z
          · have hdz : decide (0 ≤ z) = true := decide_eq_true hz
            have hdz' : decide (z ≥ 0) = true := hdz
            rw [if_pos hz] at HS
            go_wp2_with fail
            refine wp_region_mix [(14, 2)] (by kernel_rfl) (by kernel_rfl) ?_
            simp only [wpMix, List.take_succ_cons, List.take_zero, List.drop_succ_cons, List.drop_zero]
            repeat (go_big_quiet_step (fail))
            refine wpQuiet_nil ?_
            intro w6 hb6
            have hR6 := hR.go hb6
            have hT6 := hT.go hb6
            clear hR hT hb6 a0 a1 a2 a3 a4 a5
            go_wp2_with fail
            refine (cB1 _ hR6).mono ?_
            rintro e w7 ⟨rfl, hR7, hG7⟩
            have hT7 := hT6.only hG7 hn2
            clear hR6 hT6 hG7 cB1
            obtain ⟨p0, p1, p2⟩ := id hR7.box.box
            rw [E2] at p0
            have pf := hR7.box.fz
            have hP := Lib.hid hR7.put
            have hPT := Lib.hid (Tab.put hR7 hT7 hn1)
            rw [E2] at hP hPT
            clear hR7 hT7
            go_wp2_with fail
            clear p0 p1 p2 pf
            refine mixQ_normal (wpQuiet_nil ?_)
            intro w8 hb8
            have hR8 := hP.out.go hb8
            have hT8 := hPT.out.go hb8
            clear hP hPT hb8
            go_wp2_with fail
            go_roundw
            case rel => exact ⟨v + 1, by go_num, by omega, X1, Lib.hid HS.out, hR8, hT8⟩
            case measure => simp [intOf]; omega
          · have hdz : decide (0 ≤ z) = false := decide_eq_false hz
            rw [if_neg hz] at HS
            clear cB1 a0 a1 a2 a3 a4 a5
            go_wp2_with fail
            go_roundw
            case rel => exact ⟨v + 1, by go_num, by omega, X, Lib.hid HS.out, hR, hT⟩
            case measure => simp [intOf]; omega
        · have hv4 : v = 4 := by omega
          have HX := Lib.hid (show X = tiM bs 4 by rw [HX.out, hv4])
          have hdv : decide ((v : Int) < 4) = false := decide_eq_false (by omega)
          clear hge hv hT hv4
          have hck : chk 2 false X = 0 := by
            have o := tiOk_M (bs := bs) hb 4 (Nat.le_refl _)
            rw [HX.out]; exact chk_ok (n := 2) (by omega) o.len o.ok
          obtain ⟨Q, hQ⟩ : ∃ Q, Q = closeP 2 false X := ⟨_, rfl⟩
          have hlaw := tight_law (bs := bs) hb (Q := Q) (by rw [hQ, HX.out])
          have cC := close_CloseW 2 false (some ⟨g, 0, none⟩) L X wr (hR.row.oct (by unfold I64; omega) (chk_ints hck)) (by rw [hR.len, HML.out]; decide) Q hQ.symm
          rw [hR.len] at cC
          have hck2 := closeP_chk hck
          rw [← hQ] at hck2
          obtain ⟨⟨⟨Na, Ea, Ma⟩, sa⟩, ea⟩ := Q
          dsimp only at hlaw hck2
          obtain ⟨rfl, rfl, rfl, hE0, hE1⟩ := hlaw
          rw [← HX.out] at hE0 hE1
          have HE0 := Lib.hid hE0
          have HE1 := Lib.hid hE1
          have HCk := Lib.hid hck
          have HCk2 := Lib.hid hck2.2
          clear hE0 hE1 hck hck2 hQ
          obtain ⟨p0, p1, p2⟩ := id hR.box.box
          rw [E2] at p0
          go_wp2_with fail
          refine cC.mono ?_
          clear cC
          rintro e w3 ⟨A2, c2, rfl, ho3, hb3⟩
          have hB3 := hB1.trans (hR.below.mono hbl)
          dsimp only at ho3 ⊢
          clear p0 p1 p2
          obtain ⟨w4, hw4⟩ : ∃ w4, w4 = w3.alloc (.cells #[.int .i64 2, .bool Ea, .slice A2 Ma.length c2] /-T-/26) := ⟨_, rfl⟩
          have hP4 : OctAt w4 w3.heap.size 2 Ea (.slice A2 Ma.length c2) := by rw [hw4]; exact OctAt.box _ _ _ _ _
          have hb4 : Below w3.heap.size w3 w4 := by rw [hw4]; exact (Below.refl _ _).alloc (Nat.le_refl _) _
          have hr4 := ho3.below hb4
          have hB4 := (hB3.trans (hb3.mono (Nat.le_trans hbl hR.below.size))).trans (hb4.mono (Nat.le_trans (Nat.le_trans hbl hR.below.size) hb3.size))
          have hRo := (hR.go hb3).go hb4
          have hbw4 : bx ≤ w4.heap.size := Nat.le_trans hbl hRo.below.size
          clear hR hB3
          go_wp2_with fail
          rw [← hw4]
          clear hw4 hb4 hb3 ho3
          generalize w3.heap.size = bC at *
          refine (cT _).mono ?_
          clear cT
          rintro e w5 ⟨g2, M2, hM2, rfl, ho5, hb5⟩
          have hML2 : M2.length = (2 * 2) * (2 * 2) := by rw [hM2]; exact topM_len _
          have HM2 := Lib.hid hM2
          have HML2 := Lib.hid hML2
          clear hM2 hML2
          go_wp2_with fail
          obtain ⟨w6, hw6⟩ : ∃ w6, w6 = w5.alloc (.cells #[.int .i64 2, .bool false, .slice (some ⟨g2, 0, none⟩) M2.length M2.length] /-T-/26) := ⟨_, rfl⟩
          have hb6 : Below w5.heap.size w5 w6 := by rw [hw6]; exact (Below.refl _ _).alloc (Nat.le_refl _) _
          have hgl := ho5.blockGe.2
          have hGr2 : Grow w4 w6 w5.heap.size 2 g2 M2.length M2 :=
            ⟨by rw [hw6]; exact OctBox.new _ _ _ _ _, ho5.below hb6, by omega, rfl, hb5.trans (hb6.mono hb5.size), hb5.size⟩
          rw [← hw6]
          generalize M2.length = L2 at *
          clear hw6 hb6 ho5 hb5 hgl
          generalize w5.heap.size = bB at *
          go_loopw [12, 13] (fun e' s' wr => ∃ p : Nat, ∃ x : Int, s' = .int .i64 x ∧ Hid (x = (p : Int) - 6) ∧ (-6 ≤ x ∧ x ≤ 7) ∧ p ≤ 13 ∧ ∃ any Y, Hid ((any, Y) = ptP X p (false, topM 4)) ∧ e' = .bool any ∧ Grow w4 wr bB 2 g2 L2 Y) (fun e s _ => (7 - intOf s).toNat)
          case atStart => exact ⟨0, -6, rfl, Lib.hid (by omega), by omega, by omega, false, M2, Lib.hid (by rw [HM2.out]; rfl), rfl, hGr2⟩
          case round =>
            obtain ⟨p, x, rfl, hxp, hx6, hp, any, Y, HS, rfl, hR⟩ := hrel
            clear hGr2 HM2
            rcases Nat.lt_or_ge p 13 with hlt | hge
            · have hx66 : x ≤ 6 := by have := hxp.out; omega
              have hdx : decide (x ≤ 6) = true := decide_eq_true hx66
              go_wp2_with fail
              go_loopw [12, 14] (fun e' s' wr' => ∃ q : Nat, ∃ y : Int, s' = .int .i64 y ∧ Hid (y = (q : Int) - 6) ∧ (-6 ≤ y ∧ y ≤ 7) ∧ q ≤ 13 ∧ ∃ any' Y', Hid ((any', Y') = ptQ X p q (any, Y)) ∧ e' = .bool any' ∧ Grow w4 wr' bB 2 g2 L2 Y') (fun e s _ => (7 - intOf s).toNat)
              case atStart => exact ⟨0, -6, rfl, Lib.hid (by omega), by omega, by omega, any, Y, Lib.hid rfl, rfl, hR⟩
              case round =>
                obtain ⟨q, y, rfl, hyq, hy6, hq, any', Y', HS', rfl, hRq⟩ := hrel
                clear hR
                rcases Nat.lt_or_ge q 13 with hqt | hqge
                · have hy66 : y ≤ 6 := by have := hyq.out; omega
                  have hdy : decide (y ≤ 6) = true := decide_eq_true hy66
                  have hRo' := hRo.go hRq.below
                  obtain ⟨W7, hW7⟩ : ∃ W7, W7 = wr.alloc (.cells #[.int .i64 x, .int .i64 y] 2) := ⟨_, rfl⟩
                  have hbW : Below wr.heap.size wr W7 := by rw [hW7]; exact (Below.refl _ _).alloc (Nat.le_refl _) _
                  have hxr : Rd W7 W7.heap.size .i64 (some ⟨wr.heap.size, 0, none⟩) 2 (nth [x, y]) := by
                    have := (Ow.lit wr wr.heap.size 2 .i64 [x, y] (Nat.le_refl _) (by show 2 ≤ maxLen; decide)).rd
                    rw [hW7]; exact this
                  have cH := ref_Has 2 false (some ⟨g, 0, none⟩) L X (some ⟨wr.heap.size, 0, none⟩) 2 [x, y] W7 ((hRo'.go hbW).row.oct (by unfold I64; omega) (chk_ints HCk.out)) hxr (by intro v hv; simp at hv; unfold I64; omega) (by show ((2 : Nat) : Int) ≤ _; decide)
                  rw [hRo'.len] at cH
                  obtain ⟨p0, p1, p2⟩ := id hRo'.box.box
                  rw [E2] at p0
                  have hRW := hRq.go hbW
                  have hhas : hasO 2 false X [x, y] = decide (hasM 4 X [x, y]) := hasO_eq (n := 2) HCk.out rfl
                  rw [hhas] at cH
                  by_cases hh : hasM 4 X [x, y]
                  · rw [decide_eq_true hh] at cH
                    have HN := Lib.hid (show (true, bI x y any' 4 Y') = ptQ X p (q + 1) (any, Y) by
                      show _ = ptStep X p q (ptQ X p q (any, Y))
                      rw [← HS'.out]; unfold ptStep; rw [← hxp.out, ← hyq.out, if_pos hh])
                    clear hhas hbW hxr hRo' hh
                    go_wp2_with fail
                    rw [← hW7]
                    refine cH.mono ?_
                    clear cH
                    rintro e w7 ⟨rfl, hb7⟩
                    have hR7 := hRW.go hb7
                    clear hb7 hRW hRq hW7 p0 p1 p2
                    go_wp2_with fail
                    have hV : Tab (w7.alloc (.cells (([x, -x, y, -y] : List Int).map (Value.int .i64)).toArray 44)) w7.heap.size [x, -x, y, -y] := Tab.new _ _ _
                    have hb8 : Below w7.heap.size w7 (w7.alloc (.cells (([x, -x, y, -y] : List Int).map (Value.int .i64)).toArray 44)) := (Below.refl _ _).alloc (Nat.le_refl _) _
                    have hR8 := hR7.go hb8
                    have hvB : w7.heap.size ≠ g2 := by have := hR7.row.blockGe.2; omega
                    have hw8 : w7.alloc (Obj.cells #[Value.int IntKind.i64 x, Value.int IntKind.i64 (-x), Value.int IntKind.i64 y, Value.int IntKind.i64 (-y)] 44) = w7.alloc (.cells (([x, -x, y, -y] : List Int).map (Value.int .i64)).toArray 44) := rfl
                    rw [hw8]
                    clear hw8 hb8 hR7
                    generalize w7.alloc (.cells (([x, -x, y, -y] : List Int).map (Value.int .i64)).toArray 44) = w8 at *
                    generalize w7.heap.size = bV at *
                    go_loopw [16] (fun e' wr' => ∃ i : Nat, e' = .int .i64 i ∧ i ≤ 4 ∧ ∃ Z, Hid (Z = bI x y any' i Y') ∧ Grow w4 wr' bB 2 g2 L2 Z ∧ Tab wr' bV [x, -x, y, -y]) (fun e _ => 4 - (intOf e).toNat)
                    case atStart => exact ⟨0, rfl, by omega, Y', Lib.hid rfl, hR8, hV⟩
                    case round =>
                      obtain ⟨i, rfl, hi, Z, HZ, hRZ, hVZ⟩ := hrel
                      clear hR8 hV
                      rcases Nat.lt_or_ge i 4 with hit | hige
                      · have hdi : decide ((i : Int) < 4) = true := decide_eq_true (by omega)
                        go_wp2_with fail
                        go_loopw [17] (fun e' wr' => ∃ j : Nat, e' = .int .i64 j ∧ j ≤ 4 ∧ ∃ Z', Hid (Z' = bJ x y any' i j Z) ∧ Grow w4 wr' bB 2 g2 L2 Z' ∧ Tab wr' bV [x, -x, y, -y]) (fun e _ => 4 - (intOf e).toNat)
                        case atStart => exact ⟨0, rfl, by omega, Z, Lib.hid rfl, hRZ, hVZ⟩
                        case round =>
                          obtain ⟨j, rfl, hj, Z', HZ', hRj, hVj⟩ := hrel
                          clear hRZ hVZ
                          rcases Nat.lt_or_ge j 4 with hjt | hjge
                          · have hdj : decide ((j : Int) < 4) = true := decide_eq_true (by omega)
                            have hs : ∀ k, k < 4 → nth [x, -x, y, -y] k = sideV [x, y] k ∧ (-7 ≤ nth [x, -x, y, -y] k ∧ nth [x, -x, y, -y] k ≤ 7) := fun k hk => by
                              rcases (show k = 0 ∨ k = 1 ∨ k = 2 ∨ k = 3 by omega) with rfl | rfl | rfl | rfl
                              · exact ⟨rfl, show -7 ≤ x ∧ x ≤ 7 by omega⟩
                              · exact ⟨rfl, show -7 ≤ -x ∧ -x ≤ 7 by omega⟩
                              · exact ⟨rfl, show -7 ≤ y ∧ y ≤ 7 by omega⟩
                              · exact ⟨rfl, show -7 ≤ -y ∧ -y ≤ 7 by omega⟩
                            have v1 := hs i hit
                            have v2 := hs j hjt
                            have k1 := hVj i (by simpa using hit)
                            have k2 := hVj j (by simpa using hjt)
                            have HT := Lib.hid (show (if i ≠ j ∧ (any' = false ∨ nth Z' (i * 4 + j) < nth [x, -x, y, -y] i - nth [x, -x, y, -y] j) then Z'.set (i * 4 + j) (nth [x, -x, y, -y] i - nth [x, -x, y, -y] j) else Z') = bJ x y any' i (j + 1) Z by
                              rw [v1.1, v2.1, HZ'.out]; rfl)
                            have hp4 : 4 * i + j < L2 := by rw [HML2.out]; omega
                            have hpi : ((4 * i + j : Nat) : Int) < (L2 : Int) := by omega
                            rw [show i * 4 + j = 4 * i + j by omega] at HT
                            have k3 := hRj.row.cellAt (i := 4 * i + j) (by rw [hRj.len]; exact hp4)
                            have v3 := v1.2
                            have v4 := v2.2
                            clear hs v1 v2 HZ'
                            generalize nth [x, -x, y, -y] i = s1 at *
                            generalize nth [x, -x, y, -y] j = s2 at *
                            generalize nth Z' (4 * i + j) = z at *
                            obtain ⟨p0, p1, p2⟩ := id hRj.box.box
                            rw [E2] at p0
                            by_cases hij : i = j
                            · have hne : ((i : Int) != (j : Int)) = false := bne_eq_false_iff_eq.2 (by omega)
                              rw [if_neg (fun h => h.1 hij)] at HT
                              clear hij
                              have hjj := Lib.hid (And.intro hRj hVj)
                              clear hRj hVj
                              go_wp2_with fail
                              go_quiet (fail)
                              have hbq : Below wr.heap.size wr (wr.drewN nq) := ⟨rfl, rfl, rfl, Nat.le_refl _, fun _ _ => rfl⟩
                              generalize wr.drewN nq = wq at *
                              have ENDR := Lib.hid (hjj.out.1.go hbq)
                              have ENDV := Lib.hid (hjj.out.2.go hbq)
                              clear hbq
                              go_wp2_with fail
                              go_roundw
                              case rel => exact ⟨j + 1, by go_num, by omega, Z', Lib.hid HT.out, ENDR.out, ENDV.out⟩
                              case measure => simp [intOf]; omega
                            · have hne : ((i : Int) != (j : Int)) = true := bne_iff_ne.2 (by omega)
                              rcases any' with _ | _
                              · rw [if_pos ⟨hij, .inl rfl⟩] at HT
                                clear hij
                                have hjj := Lib.hid (And.intro hRj hVj)
                                clear hRj hVj
                                go_wp2_with fail
                                go_quiet (fail)
                                have hbq : Below wr.heap.size wr (wr.drewN nq) := ⟨rfl, rfl, rfl, Nat.le_refl _, fun _ _ => rfl⟩
                                generalize wr.drewN nq = wq at *
                                have hRj := hjj.out.1.go hbq
                                have hVj := hjj.out.2.go hbq
                                have a0 := After.cell (below_cell hbq p0)
                                have a1 := After.cell (below_cell hbq p1)
                                have a2 := After.cell (below_cell hbq p2)
                                have a3 := After.cell (below_cell hbq k1)
                                have a4 := After.cell (below_cell hbq k2)
                                have a5 := After.cell (below_cell hbq k3)
                                clear hbq hjj p0 p1 p2 k1 k2 k3
                                go_wp2_with fail
                                refine wp_region_mix [(13, 2)] (by kernel_rfl) (by kernel_rfl) ?_
                                simp only [wpMix, List.take_succ_cons, List.take_zero, List.drop_succ_cons, List.drop_zero]
                                repeat (go_big_quiet_step (fail))
                                refine wpQuiet_nil ?_
                                intro w9 hb9
                                have hR9 := hRj.go hb9
                                have hV9 := hVj.go hb9
                                have kk := hR9.row.cellAt (i := 4 * i + j) (by rw [hR9.len]; exact hp4)
                                have kf := hR9.row.frozenAt (4 * i + j)
                                have hP := Lib.hid (hR9.set (4 * i + j) (s1 - s2))
                                have hPV := Lib.hid (hV9.only (only_setCell (World.grownBy.refl w9 (some g2)) (p := ⟨g2, 4 * i + j, none⟩) (.inl rfl) (.int .i64 (s1 - s2))) hvB)
                                clear hRj hVj hR9 hV9 hb9 a0 a1 a2 a3 a4 a5
                                go_wp2_with fail
                                refine mixQ_normal (wpQuiet_nil ?_)
                                intro w10 hb10
                                have hR10 := Lib.hid (hP.out.go hb10)
                                have hV10 := Lib.hid (hPV.out.go hb10)
                                clear hP hPV hb10 kk kf
                                go_wp2_with fail
                                go_roundw
                                case rel => exact ⟨j + 1, by go_num, by omega, Z'.set (4 * i + j) (s1 - s2), Lib.hid HT.out, hR10.out, hV10.out⟩
                                case measure => simp [intOf]; omega
                              · by_cases hz : z < s1 - s2
                                · rw [if_pos ⟨hij, .inr hz⟩] at HT
                                  have hdz : decide (s1 - s2 > z) = true := decide_eq_true hz
                                  clear hij
                                  have hjj := Lib.hid (And.intro hRj hVj)
                                  clear hRj hVj
                                  go_wp2_with fail
                                  go_quiet (fail)
                                  have hbq : Below wr.heap.size wr (wr.drewN nq) := ⟨rfl, rfl, rfl, Nat.le_refl _, fun _ _ => rfl⟩
                                  generalize wr.drewN nq = wq at *
                                  have hRj := hjj.out.1.go hbq
                                  have hVj := hjj.out.2.go hbq
                                  have a0 := After.cell (below_cell hbq p0)
                                  have a1 := After.cell (below_cell hbq p1)
                                  have a2 := After.cell (below_cell hbq p2)
                                  have a3 := After.cell (below_cell hbq k1)
                                  have a4 := After.cell (below_cell hbq k2)
                                  have a5 := After.cell (below_cell hbq k3)
                                  clear hbq hjj p0 p1 p2 k1 k2 k3
                                  go_wp2_with fail
                                  refine wp_region_mix [(13, 2)] (by kernel_rfl) (by kernel_rfl) ?_
                                  simp only [wpMix, List.take_succ_cons, List.take_zero, List.drop_succ_cons, List.drop_zero]
                                  repeat (go_big_quiet_step (fail))
                                  refine wpQuiet_nil ?_
                                  intro w9 hb9
                                  have hR9 := hRj.go hb9
                                  have hV9 := hVj.go hb9
                                  have kk := hR9.row.cellAt (i := 4 * i + j) (by rw [hR9.len]; exact hp4)
                                  have kf := hR9.row.frozenAt (4 * i + j)
                                  have hP := Lib.hid (hR9.set (4 * i + j) (s1 - s2))
                                  have hPV := Lib.hid (hV9.only (only_setCell (World.grownBy.refl w9 (some g2)) (p := ⟨g2, 4 * i + j, none⟩) (.inl rfl) (.int .i64 (s1 - s2))) hvB)
                                  clear hRj hVj hR9 hV9 hb9 a0 a1 a2 a3 a4 a5
                                  go_wp2_with fail
                                  refine mixQ_normal (wpQuiet_nil ?_)
                                  intro w10 hb10
                                  have hR10 := Lib.hid (hP.out.go hb10)
                                  have hV10 := Lib.hid (hPV.out.go hb10)
                                  clear hP hPV hb10 kk kf
                                  go_wp2_with fail
                                  go_roundw
                                  case rel => exact ⟨j + 1, by go_num, by omega, Z'.set (4 * i + j) (s1 - s2), Lib.hid HT.out, hR10.out, hV10.out⟩
                                  case measure => simp [intOf]; omega
                                · rw [if_neg (fun h => h.2.elim (fun k => (by cases k)) hz)] at HT
                                  have hdz : decide (s1 - s2 > z) = false := decide_eq_false hz
                                  clear hij
                                  have hjj := Lib.hid (And.intro hRj hVj)
                                  clear hRj hVj
                                  go_wp2_with fail
                                  go_quiet (fail)
                                  have hbq : Below wr.heap.size wr (wr.drewN nq) := ⟨rfl, rfl, rfl, Nat.le_refl _, fun _ _ => rfl⟩
                                  generalize wr.drewN nq = wq at *
                                  have ENDR := Lib.hid (hjj.out.1.go hbq)
                                  have ENDV := Lib.hid (hjj.out.2.go hbq)
                                  clear hbq
                                  go_wp2_with fail
                                  go_roundw
                                  case rel => exact ⟨j + 1, by go_num, by omega, Z', Lib.hid HT.out, ENDR.out, ENDV.out⟩
                                  case measure => simp [intOf]; omega
                          · have hj4 : j = 4 := by omega
                            have hdj : decide ((j : Int) < 4) = false := decide_eq_false (by omega)
                            have HN2 := Lib.hid (show Z' = bI x y any' (i + 1) Y' by rw [HZ'.out, hj4, HZ.out]; rfl)
                            have hjj := Lib.hid (And.intro hRj hVj)
                            clear hj4 HZ HZ' hRj hVj
                            go_wp2_with fail
                            go_roundw
                            case rel => exact ⟨i + 1, by go_num, by omega, Z', Lib.hid HN2.out, hjj.out.1, hjj.out.2⟩
                            case measure => simp [intOf]; omega
                      · have hi4 : i = 4 := by omega
                        have hdi : decide ((i : Int) < 4) = false := decide_eq_false (by omega)
                        have HN2 := Lib.hid (show (true, Z) = ptQ X p (q + 1) (any, Y) by rw [HZ.out, hi4]; exact HN.out)
                        have hjj := Lib.hid hRZ
                        clear hi4 HZ hRZ hVZ
                        go_wp2_with fail
                        go_roundw
                        case rel => exact ⟨q + 1, y + 1, by go_num, Lib.hid (by rw [hyq.out]; push_cast; omega), by omega, by omega, true, Z, Lib.hid HN2.out, rfl, hjj.out⟩
                        case measure => simp [intOf]; omega
                  · rw [decide_eq_false hh] at cH
                    have HN := Lib.hid (show (any', Y') = ptQ X p (q + 1) (any, Y) by
                      show _ = ptStep X p q (ptQ X p q (any, Y))
                      rw [← HS'.out]; unfold ptStep; rw [← hxp.out, ← hyq.out, if_neg hh])
                    clear hhas hbW hxr hRo' hh
                    go_wp2_with fail
                    rw [← hW7]
                    refine cH.mono ?_
                    clear cH
                    rintro e w7 ⟨rfl, hb7⟩
                    have hRn := hRW.go hb7
                    clear hb7 hRW hRq hW7
                    go_wp2_with fail
                    go_roundw
                    case rel => exact ⟨q + 1, y + 1, by go_num, Lib.hid (by rw [hyq.out]; push_cast; omega), by omega, by omega, any', Y', Lib.hid HN.out, rfl, hRn⟩
                    case measure => simp [intOf]; omega
                · have hdy : decide (y ≤ 6) = false := decide_eq_false (by have := hyq.out; omega)
                  have HN := Lib.hid (show (any', Y') = ptP X (p + 1) (false, topM 4) by
                    show _ = ptQ X p 13 (ptP X p (false, topM 4))
                    rw [← HS.out, HS'.out, show q = 13 by omega])
                  have hjj := Lib.hid hRq
                  clear HS HS' hRq
                  go_wp2_with fail
                  go_roundw
                  case rel => exact ⟨p + 1, x + 1, by go_num, Lib.hid (by rw [hxp.out]; push_cast; omega), by omega, by omega, any', Y', Lib.hid HN.out, rfl, hjj.out⟩
                  case measure => simp [intOf]; omega
            · have hdx : decide (x ≤ 6) = false := decide_eq_false (by have := hxp.out; omega)
              have hp13 : p = 13 := by omega
              have HN := Lib.hid (show (any, Y) = ptP X 13 (false, topM 4) by rw [HS.out, hp13])
              have hP9 := hP4.below hR.below
              have hBw := Lib.hid (hB4.trans (hR.below.mono hbw4))
              have hws : bx ≤ wr.heap.size := Nat.le_trans hbw4 hR.below.size
              clear HS hp13 hge
              rcases any with _ | _
              · obtain rfl := HE0.out (by rw [← HN.out])
                obtain ⟨p0, p1, p2⟩ := id hP9
                clear HE0 HE1 hR hRo hP9 hP4
                go_wp2_with fail
                go_ret
                exact ⟨rfl, by rw [HBX.out]; exact hBw.out⟩
              · obtain ⟨rfl, hMa⟩ := HE1.out (by rw [← HN.out])
                rw [← HN.out] at hMa
                have HMa := Lib.hid hMa
                clear hMa
                have hr2 := hR.row.rd
                rw [hR.len] at hr2
                have cH := help_Oct 2 2 false false A2 (some ⟨g2, 0, none⟩) c2 L2 Ma Y wr ((hr4.rd.below hR.below).more hR.below.size) (by rw [hR.len]; exact hr2) (by rw [HMa.out, hR.len, HML2.out]; decide) (by rw [hR.len, HML2.out]; decide)
                rw [decide_eq_true ⟨rfl, rfl, HMa.out⟩, hR.len] at cH
                obtain ⟨p0, p1, p2⟩ := id hP9
                obtain ⟨q0, q1, q2⟩ := id hR.box.box
                rw [E2] at q0
                clear HE0 HE1 hRo hP9 hP4 hr2
                go_wp2_with fail
                refine cH.mono ?_
                rintro e w9 ⟨rfl, hb9⟩
                have hend := Lib.hid (hBw.out.trans (hb9.mono hws))
                clear hb9
                go_wp2_with fail
                go_ret
                exact ⟨rfl, by rw [HBX.out]; exact hend.out⟩
end Go.Proofs.Ytgganboepfikiaa
