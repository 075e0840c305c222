/- The walks of gnomonlaw14's box and none. -/
import Derived.Test.YtkogplnleiapfaaObp
import Derived.Test.YtkogplnleiapfaaObx
namespace Go.Proofs.Ytkogplnleiapfaa
open Go.RowKit
set_option linter.unusedVariables false
set_option linter.unusedSimpArgs false
open Gn
theorem retB2 {x y : Bool} (e : x = y) : Ending.returned (.bool x) = .returned (.bool y) := by rw [e]
/-- A cell of a row that came in, in every later world. -/
theorem rd_later {w : World} {k : IntKind} {A : Option Addr} {n : Nat} {f : Nat → Int} (h : Rd w w.heap.size k A n f) (hn : 0 < n) : ∃ g off, A = some ⟨g, off, none⟩ ∧ ∀ i, i < n → ∀ W : World, Below w.heap.size w W → W.cell? ⟨g, off + i, none⟩ = some (.int k (f i)) := by
  obtain ⟨g, off, rfl, hg, hc⟩ := h hn
  exact ⟨g, off, rfl, fun i hi W hb => (hb.cell (p := ⟨g, off + i, none⟩) hg).trans (hc i hi)⟩
set_option maxRecDepth 100000 in
set_option maxHeartbeats 4000000 in
theorem law_none (A A' : Option Addr) (c c' n : Nat) (lo hi : List Int) (w : World) (hx : Rd w w.heap.size .i16 A n (nth lo)) (hy : Rd w w.heap.size .i16 A' n (nth hi)) (hn : n ≤ 64) (E : Bool) (hE : boxE lo hi n = E) :
    Calls Try.prog 27 #[.slice A n c, .slice A' n c'] w fun e w' => e = .returned (.bool E) ∧ Below w.heap.size w w' := by
  have HE : Hid ((∃ v, v < n ∧ nth hi v < nth lo v) → E = true) := Lib.hid (fun h => by rw [← hE]; exact boxE_iff.2 h)
  have HE0 : Hid ((∀ v, v < n → nth lo v ≤ nth hi v) → E = false) := Lib.hid (fun h => by
    cases k : E
    · rfl
    · rw [k] at hE
      obtain ⟨v, hv, hlt⟩ := boxE_iff.1 hE
      have := h v hv
      omega)
  have HX := Lib.hid hx
  have HY := Lib.hid hy
  clear hx hy hE
  go_enter Try.func27, Try.ntmps27
  go_wp2_with fail
  go_loopw [5] (fun s' wr => ∃ v : Nat, s' = .int .i64 v ∧ v ≤ n ∧ Hid (∀ j, j < v → nth lo j ≤ nth hi j) ∧ Below w.heap.size w wr) (fun s _ => n - (intOf s).toNat)
  case atStart => exact ⟨0, rfl, by omega, Lib.hid (fun j hj => absurd hj (by omega)), Below.refl _ _⟩
  case round =>
    obtain ⟨v, rfl, hv, HL, hB⟩ := hrel
    have HB := Lib.hid hB
    rcases Nat.lt_or_ge v n with hlt | hge
    · obtain ⟨g, off, rfl, hk⟩ := rd_later HX.out (by omega)
      obtain ⟨g', off', rfl, hk'⟩ := rd_later HY.out (by omega)
      have a0 := After.cell (hk v hlt _ hB)
      have a1 := After.cell (hk' v hlt _ hB)
      have HV : Hid (nth hi v < nth lo v → E = true) := Lib.hid (fun h => HE.out ⟨v, hlt, h⟩)
      have HS : Hid (nth lo v ≤ nth hi v → ∀ j, j < v + 1 → nth lo j ≤ nth hi j) := Lib.hid (fun h j hj => by
        by_cases e : j = v
        · subst e; exact h
        · exact HL.out j (by omega))
      generalize nth hi v = yh at *
      generalize nth lo v = yl at *
      have q1 : (v : Int) < (n : Int) := by omega
      clear hk hk' HE HE0 HX HY hB
      by_cases hc : yh < yl
      · have hd : decide (yl > yh) = true := decide_eq_true hc
        have HF := Lib.hid (HV.out hc)
        clear HV HS hc
        go_wp2_with fail
        refine wp_region_after (by kernel_rfl) (by kernel_rfl) ?_
        repeat (go_big_quiet_step (fail))
        refine wpQuiet_nil ?_
        intro w6 hb6
        have hend := Lib.hid (HB.out.trans (hb6.mono HB.out.size))
        clear a0 a1
        go_wp2_with fail
        go_ret
        exact ⟨retB2 HF.out.symm, hend.out⟩
      · have hd : decide (yl > yh) = false := decide_eq_false hc
        have HF := Lib.hid (HS.out (by omega))
        clear HV HS hc
        go_wp2_with fail
        refine wp_region_after (by kernel_rfl) (by kernel_rfl) ?_
        repeat (go_big_quiet_step (fail))
        refine wpQuiet_nil ?_
        intro w6 hb6
        have hend := Lib.hid (HB.out.trans (hb6.mono HB.out.size))
        clear a0 a1
        go_wp2_with fail
        go_roundw
        case rel => exact ⟨v + 1, by go_num, by omega, HF, hend.out⟩
        case measure => simp [intOf]; omega
    · obtain rfl : v = n := by omega
      have HF := Lib.hid (HE0.out HL.out)
      clear HE HE0 HX HY hB HL hge hv
      go_wp2_with fail
      go_ret
      exact ⟨retB2 HF.out.symm, HB.out⟩
set_option maxRecDepth 100000 in
set_option maxHeartbeats 4000000 in
theorem law_box (A A' : Option Addr) (c c' n : Nat) (lo hi : List Int) (w : World) (hx : Rd w w.heap.size .i16 A n (nth lo)) (hy : Rd w w.heap.size .i16 A' n (nth hi)) (hl : ∀ v, small (nth lo v)) (hh : ∀ v, small (nth hi v)) (hn : n ≤ 64) :
    Calls Try.prog 26 #[.slice A n c, .slice A' n c'] w fun e w' => ∃ g L, e = .returned (.agg #[.int .i64 n, .bool false, .slice (some ⟨g, 0, none⟩) L L]) ∧ L = (boxM n lo hi n).length ∧
      Ow w' w.heap.size 2 .i64 (some ⟨g, 0, none⟩) L (boxM n lo hi n) ∧ Below w.heap.size w w' := by
  have HX := Lib.hid hx
  have HY := Lib.hid hy
  have HSL := Lib.hid hl
  have HSH := Lib.hid hh
  clear hx hy hl hh
  obtain ⟨W, hW, kR, kB, hs⟩ := one_box w 24 0 false (.slice none 0 0)
  have kF : ∀ i, W.frozen? ⟨w.heap.size, i, none⟩ = false := by intro i; rw [hW]; simp [go_sem]
  have HR : Hid (OctBox W w.heap.size 0 false (.slice none 0 0)) := Lib.hid ⟨kR, kF⟩
  have HB := Lib.hid kB
  have HSz : Hid (W.heap.size = w.heap.size + 1) := Lib.hid hs
  clear kR kF kB hs
  have cT := fun X => ref_Top n X hn
  go_enter Try.func26, Try.ntmps26
  go_wp2_with fail
  rw [← hW]
  clear hW
  with_reducible refine (cT _).mono ?_
  clear cT
  rintro e w2 ⟨g, M, hM, rfl, ho, hb2⟩
  have hg2 := ho.blockGe
  have hML : M.length = (2 * n) * (2 * n) := by rw [hM]; exact topM_len _
  have HM := Lib.hid hM
  have HML := Lib.hid hML
  clear hM hML
  obtain ⟨w3, hw3⟩ : ∃ w3, w3 = w2.alloc (.cells #[.int .i64 n, .bool false, .slice (some ⟨g, 0, none⟩) M.length M.length] 24) := ⟨_, rfl⟩
  have hb3 : Below w2.heap.size w2 w3 := by rw [hw3]; exact (Below.refl _ _).alloc (Nat.le_refl _) _
  have hGr : Grow W w3 w2.heap.size n g M.length M :=
    ⟨by rw [hw3]; exact OctBox.new _ _ _ _ _, ho.below hb3, by omega, rfl, hb2.trans (hb3.mono hb2.size), hb2.size⟩
  clear hb3 ho hb2 hg2
  go_wp2_with fail
  rw [← hw3]
  clear hw3
  generalize M.length = L at *
  generalize w2.heap.size = bO at *
  go_loopw [6] (fun s' wr => ∃ v : Nat, s' = .int .i64 v ∧ v ≤ n ∧ ∃ X : List Int, Hid (X = boxM n lo hi v) ∧ Grow W wr bO n g L X) (fun s _ => n - (intOf s).toNat)
  case atStart => exact ⟨0, rfl, by omega, M, Lib.hid HM.out, hGr⟩
  case round =>
    obtain ⟨v, rfl, hv, X, HX1, hR⟩ := hrel
    clear hGr HM
    have hBw := HB.out.trans (hR.below.mono (by have := HSz.out; omega))
    rcases Nat.lt_or_ge v n with hlt | hge
    · have cB1 := fun (Y : World) (h : Grow W Y bO n g L X) => h.bound (by omega) HML.out (2 * nth hi v) (show 2 * v < 2 * n by omega) (show 2 * v + 1 < 2 * n by omega) (by omega)
      rw [show ((2 * v : Nat) : Int) = 2 * (v : Int) by push_cast; rfl, show ((2 * v + 1 : Nat) : Int) = 2 * (v : Int) + 1 by push_cast; rfl] at cB1
      have HS := Lib.hid (show boundM (2 * n) (boundM (2 * n) X (2 * v) (2 * v + 1) (2 * nth hi v)) (2 * v + 1) (2 * v) (-2 * nth lo v) = boxM n lo hi (v + 1) by rw [HX1.out]; rfl)
      generalize boundM (2 * n) X (2 * v) (2 * v + 1) (2 * nth hi v) = X1 at *
      have cB2 := fun (Y : World) (h : Grow W Y bO n g L X1) => h.bound (by omega) HML.out (-2 * nth lo v) (show 2 * v + 1 < 2 * n by omega) (show 2 * v < 2 * n by omega) (by omega)
      rw [show ((2 * v : Nat) : Int) = 2 * (v : Int) by push_cast; rfl, show ((2 * v + 1 : Nat) : Int) = 2 * (v : Int) + 1 by push_cast; rfl] at cB2
      generalize boundM (2 * n) X1 (2 * v + 1) (2 * v) (-2 * nth lo v) = X2 at *
      obtain ⟨gl, ol, rfl, hkl⟩ := rd_later HX.out (by omega)
      obtain ⟨gh, oh, rfl, hkh⟩ := rd_later HY.out (by omega)
      have kl : ∀ Y : World, Below W.heap.size W Y → Y.cell? ⟨gl, ol + v, none⟩ = some (.int .i16 (nth lo v)) := fun Y hb => hkl v hlt Y (HB.out.trans (hb.mono (by have := HSz.out; omega)))
      have kh : ∀ Y : World, Below W.heap.size W Y → Y.cell? ⟨gh, oh + v, none⟩ = some (.int .i16 (nth hi v)) := fun Y hb => hkh v hlt Y (HB.out.trans (hb.mono (by have := HSz.out; omega)))
      have s1 := HSL.out v
      have s2 := HSH.out v
      unfold small at s1 s2
      clear hkl hkh hBw
      generalize nth hi v = yh at *
      generalize nth lo v = yl at *
      have q1 : (v : Int) < (n : Int) := by omega
      have HXX := Lib.hid HX.out
      obtain ⟨p0, p1, p2⟩ := id hR.box.box
      have a0 := After.cell p0
      have a1 := After.cell p1
      have a2 := After.cell p2
      have a3 := After.cell (kh _ hR.below)
      clear p0 p1 p2
      go_wp2_with fail
      refine wp_region_mix [(12, 2)] (by kernel_rfl) (by kernel_rfl) ?_
      simp only [wpMix, List.take_succ_cons, List.take_zero, List.drop_succ_cons, List.drop_zero]
      repeat (go_big_quiet_step (fail))
      refine wpQuiet_nil ?_
      intro w6 hb6
      have hR6 := hR.go hb6
      clear hR hb6 a0 a1 a2 a3
      go_wp2_with fail
      with_reducible refine (cB1 _ hR6).mono ?_
      rintro e w7 ⟨rfl, hR7⟩
      clear hR6 cB1
      obtain ⟨p0, p1, p2⟩ := id hR7.box.box
      have pf := hR7.box.fz
      have hP := Lib.hid hR7.put
      clear hR7
      go_wp2_with fail
      clear p0 p1 p2 pf
      refine mixQ_normal (wpQuiet_nil ?_)
      intro w8 hb8
      have hR8 := hP.out.go hb8
      clear hP hb8
      obtain ⟨p0, p1, p2⟩ := id hR8.box.box
      have a0 := After.cell p0
      have a1 := After.cell p1
      have a2 := After.cell p2
      have a3 := After.cell (kl _ hR8.below)
      clear p0 p1 p2
      go_wp2_with fail
      refine wp_region_mix [(12, 2)] (by kernel_rfl) (by kernel_rfl) ?_
      simp only [wpMix, List.take_succ_cons, List.take_zero, List.drop_succ_cons, List.drop_zero]
      repeat (go_big_quiet_step (fail))
      refine wpQuiet_nil ?_
      intro w9 hb9
      have hR9 := hR8.go hb9
      clear hR8 hb9 a0 a1 a2 a3
      go_wp2_with fail
      with_reducible refine (cB2 _ hR9).mono ?_
      rintro e w10 ⟨rfl, hR10⟩
      clear hR9 cB2
      obtain ⟨p0, p1, p2⟩ := id hR10.box.box
      have pf := hR10.box.fz
      have hP := Lib.hid hR10.put
      clear hR10
      go_wp2_with fail
      clear p0 p1 p2 pf
      refine mixQ_normal (wpQuiet_nil ?_)
      intro w11 hb11
      have hR11 := Lib.hid (hP.out.go hb11)
      clear hP hb11
      go_wp2_with fail
      go_roundw
      case rel => exact ⟨v + 1, by go_num, by omega, X2, Lib.hid HS.out, hR11.out⟩
      case measure => simp [intOf]; omega
    · obtain rfl : v = n := by omega
      clear hge hv
      obtain ⟨p0, p1, p2⟩ := id hR.box.box
      have hR0 := HR.out.below hR.below
      obtain ⟨⟨r0, r1, r2⟩, rf⟩ := id hR0
      have hne : w.heap.size ≠ g := fun e => by have := hR.row.blockGe.1; have := HSz.out; omega
      have hP := hR0.put v false (.slice (some ⟨g, 0, none⟩) L L)
      have hrow := Lib.hid (hR.row.other' hP.2 hne)
      have hend := Lib.hid (((hBw.setCell (p := ⟨w.heap.size, 0, none⟩) (Nat.le_refl _) (.int .i64 v)).setCell (p := ⟨w.heap.size, 1, none⟩) (Nat.le_refl _) (.bool false)).setCell (p := ⟨w.heap.size, 2, none⟩) (Nat.le_refl _) (.slice (some ⟨g, 0, none⟩) L L))
      have HLen := Lib.hid hR.len
      clear hP hR hR0 hne hBw
      go_wp2_with fail
      refine bodyPost_ret (v := .agg #[.int .i64 v, .bool false, .slice (some ⟨g, 0, none⟩) L L]) (by simp [results, Try.results26, go_sem, r0, r1, r2]) rfl ?_
      refine ⟨g, L, rfl, ?_, ?_, hend.out⟩
      · rw [← HX1.out]; exact HLen.out.symm
      · rw [← HX1.out]; exact hrow.out.lower (by have := HSz.out; omega)
end Go.Proofs.Ytkogplnleiapfaa
