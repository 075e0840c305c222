/- The walk of the statement CloseBoxes. -/
import Derived.Test.YtgganboepfikiaaCcl
import Derived.Test.YtgganboepfikiaaCbx
import Derived.Test.YtgganboepfikiaaObx
import Derived.Test.YtgganboepfikiaaDbc
namespace Go.Proofs.Ytgganboepfikiaa
open Go.RowKit
set_option linter.unusedVariables false
set_option linter.unusedSimpArgs false
open Gn
theorem Gn.i16_wf {x : Int} (h : (Lit.int .i16 x).wf = true) : small x := by
  simp [Lit.wf, IntKind.min, IntKind.max, IntKind.signed, IntKind.bits] at h
  exact ⟨by omega, by omega⟩
theorem Gn.small_nth {xs : List Int} (h : ∀ x ∈ xs, small x) (v : Nat) : small (nth xs v) := by
  by_cases hv : v < xs.length
  · exact h _ (nth_mem hv)
  · unfold nth
    rw [List.getD_eq_getElem?_getD, List.getElem?_eq_none (by omega)]
    exact ⟨by decide, by decide⟩
theorem law_most (A A' : Option Addr) (c c' n : Nat) (lo hi : List Int) (i : Nat) (w : World) (hx : Rd w w.heap.size .i16 A n (nth lo)) (hy : Rd w w.heap.size .i16 A' n (nth hi))
    (hl : ∀ v, small (nth lo v)) (hh : ∀ v, small (nth hi v)) (h1 : i / 2 < n) (hi2 : i < 1000) :
    Calls Try.prog 20 #[.slice A n c, .slice A' n c', .int .i64 i] w fun e w' => e = .returned (.int .i64 (mostV lo hi i)) ∧ Below w.heap.size w w' := by
  have hm : (i : Int).tmod 2 = ((i % 2 : Nat) : Int) := by rw [Int.tmod_eq_emod_of_nonneg (by omega)]; omega
  have hd : (i : Int).tdiv 2 = ((i / 2 : Nat) : Int) := by rw [Int.tdiv_eq_ediv_of_nonneg (by omega)]; omega
  obtain ⟨g, off, rfl, hg, hc⟩ := hx (by omega)
  obtain ⟨g', off', rfl, hg', hc'⟩ := hy (by omega)
  have k1 := hc _ h1
  have k2 := hc' _ h1
  have s1 := hl (i / 2)
  have s2 := hh (i / 2)
  unfold small at s1 s2
  have hv : mostV lo hi i = if i % 2 = 0 then nth hi (i / 2) else -(nth lo (i / 2)) := rfl
  rw [hv]
  generalize nth lo (i / 2) = x1 at *
  generalize nth hi (i / 2) = x2 at *
  have z1 : ((i / 2 : Nat) : Int) < (n : Int) := by omega
  have hq : i / 2 < 500 := by omega
  clear hc hc' hx hy hl hh hv
  by_cases h0 : i % 2 = 0
  · have hb : (((i % 2 : Nat) : Int) == 0) = true := by rw [h0]; rfl
    rw [if_pos h0]
    clear h0
    generalize i / 2 = q at *
    generalize i % 2 = r at *
    go_enter Try.func20, Try.ntmps20
    go_wp2_with fail
    go_ret
    exact ⟨rfl, Below.refl _ _⟩
  · have hb : (((i % 2 : Nat) : Int) == 0) = false := beq_eq_false_iff_ne.2 (by omega)
    rw [if_neg h0]
    clear h0
    generalize i / 2 = q at *
    generalize i % 2 = r at *
    go_enter Try.func20, Try.ntmps20
    go_wp2_with fail
    go_ret
    exact ⟨rfl, Below.refl _ _⟩
set_option maxRecDepth 100000 in
set_option maxHeartbeats 40000000 in
theorem law_CloseBoxes (A A' : Option Addr) (c c' : Nat) (lo hi : List Int) (w : World) (hx : Rd w w.heap.size .i16 A lo.length (nth lo)) (hy : Rd w w.heap.size .i16 A' hi.length (nth hi))
    (hl0 : ∀ v ∈ lo, small v) (hh0 : ∀ v ∈ hi, small v) (hlm : (lo.length : Int) ≤ 9223372036854775807) (hhm : (hi.length : Int) ≤ 9223372036854775807) :
    Calls Try.prog 5 #[.slice A lo.length c, .slice A' hi.length c'] w fun e w' => e = .returned (.bool true) ∧ Below w.heap.size w w' := by
  have hl := small_nth hl0
  have hh := small_nth hh0
  clear hl0 hh0
  have cK := known13 w
  go_enter Try.func5, Try.ntmps5
  go_wp2_with fail
  refine cK.mono ?_
  clear cK
  rintro e w1 ⟨rfl, hb1⟩
  by_cases hn : lo.length ≤ 6
  · by_cases hle : hi.length = lo.length
    · have hne : ((hi.length : Int) != (lo.length : Int)) = false := bne_eq_false_iff_eq.2 (by omega)
      obtain ⟨n, hnn⟩ : ∃ n, n = lo.length := ⟨_, rfl⟩
      have cT := fun W => ref_Top n W (by omega)
      have HL := Lib.hid hle
      have hB1 := hb1
      have hx1 := hx.below hb1
      have hy1 := hy.below hb1
      rw [hle] at hy1
      clear hle hb1
      rw [← hnn] at hn hlm hne hx1 hy1 ⊢
      rw [HL.out, ← hnn] at hne ⊢
      rw [← hnn] at hx
      rw [HL.out, ← hnn] at hy
      have hd : decide ((6 : Int) < (n : Int)) = false := decide_eq_false (by omega)
      have HRX := Lib.hid hx
      have HRY := Lib.hid hy
      have HSL := Lib.hid hl
      have HSH := Lib.hid hh
      have HN := Lib.hid hnn
      clear hnn
      clear hx hy hx1 hy1 hl hh
      go_wp2_with fail
      refine (cT _).mono ?_
      rintro e w2 ⟨g, M, hM, rfl, ho, hb2⟩
      have hB2 := hB1.trans (hb2.mono hB1.size)
      have hg2 := ho.blockGe
      have hML : M.length = (2 * n) * (2 * n) := by rw [hM]; exact topM_len _
      have HM := Lib.hid hM
      have HML := Lib.hid hML
      clear hM hML
      go_wp2_with fail
      obtain ⟨w3, hw3⟩ : ∃ w3, w3 = w2.alloc (.cells #[.int .i64 n, .bool false, .slice (some ⟨g, 0, none⟩) M.length M.length] /-T-/26) := ⟨_, rfl⟩
      have hb3 : Below w2.heap.size w2 w3 := by rw [hw3]; exact (Below.refl _ _).alloc (Nat.le_refl _) _
      have hs3 : w2.heap.size < w3.heap.size := by rw [hw3]; simp
      have hGr : Grow w w3 w2.heap.size n g M.length M :=
        ⟨by rw [hw3]; exact OctBox.new _ _ _ _ _, (ho.below hb3).lower hB1.size, by omega, rfl, hB2.trans (hb3.mono hB2.size), hB2.size⟩
      rw [← hw3]
      generalize M.length = L at *
      clear hw3 hb3 ho hb2 hB2 hB1 hne hd
      generalize w2.heap.size = bO at *
      go_loopw [7, 8] (fun e' s' wr => ∃ v : Nat, s' = .int .i64 v ∧ v ≤ n ∧ e' = .bool (boxE lo hi v) ∧ ∃ X : List Int, Hid (X = boxM n lo hi v) ∧ Grow w wr bO n g L X) (fun e s _ => n - (intOf s).toNat)
      case atStart => exact ⟨0, rfl, by omega, rfl, M, Lib.hid HM.out, hGr⟩
      case round =>
        obtain ⟨v, rfl, hv, rfl, X, HX, hR⟩ := hrel
        clear hGr hs3 hg2 HM
        rcases Nat.lt_or_ge v n with hlt | hge
        · have hx := HRX.out
          have hy := HRY.out
          have hl := HSL.out
          have hh := HSH.out
          clear HRX HRY HSL HSH
          have cB1 := fun (W : World) (h : Grow w W bO n g L X) => h.bound (by omega) HML.out (2 * nth hi v) (show 2 * v < 2 * n by omega) (show 2 * v + 1 < 2 * n by omega) (by omega)
          rw [show ((2 * v : Nat) : Int) = 2 * (v : Int) by push_cast; rfl, show ((2 * v + 1 : Nat) : Int) = 2 * (v : Int) + 1 by push_cast; rfl] at cB1
          have HS := Lib.hid (show boundM (2 * n) (boundM (2 * n) X (2 * v) (2 * v + 1) (2 * nth hi v)) (2 * v + 1) (2 * v) (-2 * nth lo v) = boxM n lo hi (v + 1) by rw [HX.out]; rfl)
          have HE := Lib.hid (show (boxE lo hi v || decide (nth hi v < nth lo v)) = boxE lo hi (v + 1) from rfl)
          generalize boundM (2 * n) X (2 * v) (2 * v + 1) (2 * nth hi v) = X1 at *
          have cB2 := fun (W : World) (h : Grow w W bO n g L X1) => h.bound (by omega) HML.out (-2 * nth lo v) (show 2 * v + 1 < 2 * n by omega) (show 2 * v < 2 * n by omega) (by omega)
          rw [show ((2 * v : Nat) : Int) = 2 * (v : Int) by push_cast; rfl, show ((2 * v + 1 : Nat) : Int) = 2 * (v : Int) + 1 by push_cast; rfl] at cB2
          generalize boundM (2 * n) X1 (2 * v + 1) (2 * v) (-2 * nth lo v) = X2 at *
          obtain ⟨gh, oh, rfl, hgh, hch⟩ := hy (by omega)
          obtain ⟨gl, ol, rfl, hgl, hcl⟩ := hx (by omega)
          have kh0 := hch v (by omega)
          have kl0 := hcl v (by omega)
          have kh : ∀ W : World, Below w.heap.size w W → W.cell? ⟨gh, oh + v, none⟩ = some (.int .i16 (nth hi v)) := fun W hb => (hb.cell (p := ⟨gh, oh + v, none⟩) hgh).trans kh0
          have kl : ∀ W : World, Below w.heap.size w W → W.cell? ⟨gl, ol + v, none⟩ = some (.int .i16 (nth lo v)) := fun W hb => (hb.cell (p := ⟨gl, ol + v, none⟩) hgl).trans kl0
          have s1 := hl v
          have s2 := hh v
          unfold small at s1 s2
          clear kh0 kl0 hch hcl hx hy hl hh
          generalize nth hi v = yh at *
          generalize nth lo v = yl at *
          generalize boxE lo hi v = ee at *
          have q1 : (v : Int) < (n : Int) := by omega
          obtain ⟨p0, p1, p2⟩ := id hR.box.box
          have a0 := After.cell p0
          have a1 := After.cell p1
          have a2 := After.cell p2
          have a3 := After.cell (kh _ hR.below)
          clear p0 p1 p2
          go_wp2_with fail
          refine wp_region_mix [(12, 2)] (by kernel_rfl) (by kernel_rfl) ?_
          simp only [wpMix, List.take_succ_cons, List.take_zero, List.drop_succ_cons, List.drop_zero]
          repeat (go_big_quiet_step (fail))
          refine wpQuiet_nil ?_
          intro w6 hb6
          have hR6 := hR.go hb6
          clear hR hb6 a0 a1 a2 a3
          go_wp2_with fail
          refine (cB1 _ hR6).mono ?_
          rintro e w7 ⟨rfl, hR7⟩
          clear hR6 cB1
          obtain ⟨p0, p1, p2⟩ := id hR7.box.box
          have pf := hR7.box.fz
          have hP := Lib.hid hR7.put
          clear hR7
          go_wp2_with fail
          clear p0 p1 p2 pf
          refine mixQ_normal (wpQuiet_nil ?_)
          intro w8 hb8
          have hR8 := hP.out.go hb8
          clear hP hb8
          obtain ⟨p0, p1, p2⟩ := id hR8.box.box
          have a0 := After.cell p0
          have a1 := After.cell p1
          have a2 := After.cell p2
          have a3 := After.cell (kl _ hR8.below)
          clear p0 p1 p2
          go_wp2_with fail
          refine wp_region_mix [(12, 2)] (by kernel_rfl) (by kernel_rfl) ?_
          simp only [wpMix, List.take_succ_cons, List.take_zero, List.drop_succ_cons, List.drop_zero]
          repeat (go_big_quiet_step (fail))
          refine wpQuiet_nil ?_
          intro w9 hb9
          have hR9 := hR8.go hb9
          clear hR8 hb9 a0 a1 a2 a3
          go_wp2_with fail
          refine (cB2 _ hR9).mono ?_
          rintro e w10 ⟨rfl, hR10⟩
          clear hR9 cB2
          obtain ⟨p0, p1, p2⟩ := id hR10.box.box
          have pf := hR10.box.fz
          have hP := Lib.hid hR10.put
          clear hR10
          go_wp2_with fail
          clear p0 p1 p2 pf
          refine mixQ_normal (wpQuiet_nil ?_)
          intro w11 hb11
          have hR11 := hP.out.go hb11
          clear hP hb11
          have ky := kh _ hR11.below
          have kx := kl _ hR11.below
          go_wp2_with fail
          have hend : ∃ X : List Int, Hid (X = boxM n lo hi (v + 1)) ∧ Grow w w11 bO n g L X := ⟨X2, Lib.hid HS.out, hR11⟩
          have HN1 := Lib.hid hend
          clear hend hR11 HS HX
          rcases ee with _ | _
          · by_cases hc : yl > yh
            · have hd : decide (yl > yh) = true := decide_eq_true hc
              have hB := Lib.hid (show true = boxE lo hi (v + 1) by rw [← HE.out, show decide (yh < yl) = true from hd]; rfl)
              clear HE
              go_quiet (fail)
              go_wp2_with fail
              go_roundw
              case rel =>
                obtain ⟨X, hX, hG⟩ := HN1.out
                exact ⟨v + 1, by go_num, by omega, by rw [hB.out], X, hX, hG.go ⟨rfl, rfl, rfl, Nat.le_refl _, fun _ _ => rfl⟩⟩
              case measure => simp [intOf]; omega
            · have hd : decide (yl > yh) = false := decide_eq_false hc
              have hB := Lib.hid (show false = boxE lo hi (v + 1) by rw [← HE.out, show decide (yh < yl) = false from hd]; rfl)
              clear HE
              go_quiet (fail)
              go_wp2_with fail
              go_roundw
              case rel =>
                obtain ⟨X, hX, hG⟩ := HN1.out
                exact ⟨v + 1, by go_num, by omega, by rw [hB.out], X, hX, hG.go ⟨rfl, rfl, rfl, Nat.le_refl _, fun _ _ => rfl⟩⟩
              case measure => simp [intOf]; omega
          · have hB := Lib.hid (show true = boxE lo hi (v + 1) by rw [← HE.out, Bool.true_or])
            clear HE
            go_quiet (fail)
            go_wp2_with fail
            go_roundw
            case rel =>
              obtain ⟨X, hX, hG⟩ := HN1.out
              exact ⟨v + 1, by go_num, by omega, by rw [hB.out], X, hX, hG.go ⟨rfl, rfl, rfl, Nat.le_refl _, fun _ _ => rfl⟩⟩
            case measure => simp [intOf]; omega
        · have hvn : v = n := by omega
          subst hvn
          clear hge hv
          obtain ⟨Q, hQ⟩ : ∃ Q, Q = closeP v false X := ⟨_, rfl⟩
          have hXl : X.length = (2 * v) * (2 * v) := by rw [hR.len]; exact HML.out
          have hck : chk v false X = 0 := by rw [HX.out]; exact chk_ok (by omega) (by rw [boxM_len, sq2]) (okM_box HSL.out HSH.out)
          have hLn : (L : Int) ≤ 17592186043904 := by
            have := sq_le (n := v) (by omega)
            rw [HML.out, sq2]; omega
          have hck2 := (closeP_chk hck)
          have cC := close_CloseW v false (some ⟨g, 0, none⟩) L X wr (hR.row.oct (by unfold I64; omega) (chk_ints hck)) (by rw [hR.len]; exact hLn) Q hQ.symm
          rw [hR.len] at cC
          rw [← hQ] at hck2
          have hlaw := boxes_law (n := v) (lo := lo) (hi := hi) (by omega) HSL.out HSH.out (Q := Q) (by rw [hQ, HX.out])
          obtain ⟨⟨⟨Na, Ea, Ma⟩, sa⟩, ea⟩ := Q
          dsimp only at hlaw hck2
          obtain ⟨rfl, rfl, hE1, hE0⟩ := hlaw
          have HI := Lib.hid (chk_ints hck2.2)
          have HE1 := Lib.hid hE1
          have HE0 := Lib.hid hE0
          clear hE1 hE0 hck hck2 hQ HX hXl
          generalize heb : boxE lo hi v = eb at *
          obtain ⟨p0, p1, p2⟩ := id hR.box.box
          go_wp2_with fail
          refine cC.mono ?_
          clear cC
          rintro e w3 ⟨A2, c2, rfl, ho3, hb3⟩
          dsimp only at ho3 HI HE1 HE0 ⊢
          have hB3 := hR.below.trans (hb3.mono hR.below.size)
          clear hR p0 p1 p2 hb3
          obtain ⟨w4, hw4⟩ : ∃ w4, w4 = w3.alloc (.cells #[.int .i64 v, .bool Ea, .slice A2 Ma.length c2] /-T-/26) := ⟨_, rfl⟩
          have hP4 : OctAt w4 w3.heap.size v Ea (.slice A2 Ma.length c2) := by rw [hw4]; exact OctAt.box _ _ _ _ _
          have hb4 : Below w3.heap.size w3 w4 := by rw [hw4]; exact (Below.refl _ _).alloc (Nat.le_refl _) _
          have ho4 := (ho3.below hb4)
          have hB4 := hB3.trans (hb4.mono hB3.size)
          have HEb := Lib.hid heb
          clear heb hb4 ho3 hB3
          have HW4 := Lib.hid hw4
          clear hw4
          rcases eb with _ | _
          · obtain ⟨rfl, hMa⟩ := HE0.out rfl
            clear HE1 HE0
            have HMa := Lib.hid hMa
            clear hMa
            go_wp2_with fail
            rw [← HW4.out]
            clear HW4
            generalize w3.heap.size = bC at *
            refine (cT _).mono ?_
            rintro e w5 ⟨g2, M2, hM2, rfl, ho5, hb5⟩
            have hML2 : M2.length = (2 * v) * (2 * v) := by rw [hM2]; exact topM_len _
            have HM2 := Lib.hid hM2
            have HML2 := Lib.hid hML2
            clear hM2 hML2 cT
            go_wp2_with fail
            obtain ⟨w6, hw6⟩ : ∃ w6, w6 = w5.alloc (.cells #[.int .i64 v, .bool false, .slice (some ⟨g2, 0, none⟩) M2.length M2.length] /-T-/26) := ⟨_, rfl⟩
            have hb6 : Below w5.heap.size w5 w6 := by rw [hw6]; exact (Below.refl _ _).alloc (Nat.le_refl _) _
            have hgl := ho5.blockGe.2
            have hGr2 : Grow w4 w6 w5.heap.size v g2 M2.length M2 :=
              ⟨by rw [hw6]; exact OctBox.new _ _ _ _ _, ho5.below hb6, by omega, rfl, hb5.trans (hb6.mono hb5.size), hb5.size⟩
            rw [← hw6]
            generalize M2.length = L2 at *
            clear hw6 hb6 ho5 hb5 hgl
            generalize w5.heap.size = bW at *
            go_loopw [13] (fun e' wr => ∃ i : Nat, e' = .int .i64 i ∧ i ≤ 2 * v ∧ ∃ X : List Int, Hid (X = fillI v lo hi i (topM (2 * v))) ∧ Grow w4 wr bW v g2 L2 X) (fun e _ => 2 * v - (intOf e).toNat)
            case atStart => exact ⟨0, rfl, by omega, M2, Lib.hid HM2.out, hGr2⟩
            case round =>
              obtain ⟨i, rfl, hiv, X1, HX1, hR1⟩ := hrel
              clear hGr2 HM2
              rcases Nat.lt_or_ge i (2 * v) with hlt | hge
              · have hdi : decide ((i : Int) < 2 * (v : Int)) = true := decide_eq_true (by omega)
                go_wp2_with fail
                go_loopw [14] (fun e' wr' => ∃ j : Nat, e' = .int .i64 j ∧ j ≤ 2 * v ∧ ∃ X : List Int, Hid (X = fillJ v lo hi i j X1) ∧ Grow w4 wr' bW v g2 L2 X) (fun e _ => 2 * v - (intOf e).toNat)
                case atStart => exact ⟨0, rfl, by omega, X1, Lib.hid rfl, hR1⟩
                case round =>
                  obtain ⟨j, rfl, hj, X, HX, hR⟩ := hrel
                  clear hR1
                  rcases Nat.lt_or_ge j (2 * v) with hjt | hjge
                  · have hdj : decide ((j : Int) < 2 * (v : Int)) = true := decide_eq_true (by omega)
                    by_cases hij : i = j
                    · have hne : ((i : Int) != (j : Int)) = false := bne_eq_false_iff_eq.2 (by omega)
                      have HE := Lib.hid (show X = fillJ v lo hi i (j + 1) X1 by rw [HX.out]; show _ = fillStep v lo hi i j _; unfold fillStep; rw [if_pos hij]; rfl)
                      clear hij
                      go_wp2_with fail
                      go_roundw
                      case rel => exact ⟨j + 1, by go_num, by omega, X, Lib.hid HE.out, hR⟩
                      case measure => simp [intOf]; omega
                    · have hne : ((i : Int) != (j : Int)) = true := bne_iff_ne.2 (by omega)
                      have HE := Lib.hid (show X.set (i * (2 * v) + j) (mostV lo hi i + mostV lo hi (ac j)) = fillJ v lo hi i (j + 1) X1 by rw [HX.out]; show _ = fillStep v lo hi i j _; unfold fillStep; rw [if_neg hij]; rfl)
                      have hp : i * (2 * v) + j < L2 := by rw [HML2.out]; exact idx_lt hlt hjt
                      have hq : i * (2 * v) ≤ 12 * 12 := Nat.mul_le_mul (by omega) (by omega)
                      have hBy : ∀ y : After wr, Below w.heap.size w y.w := fun y => (hB4.trans (hR.below.mono hB4.size)).trans (y.below.mono (Nat.le_trans hB4.size hR.below.size))
                      have cM1 := fun y : After wr => law_most A A' c c' v lo hi i y.w ((HRX.out.below (hBy y)).more (hBy y).size) ((HRY.out.below (hBy y)).more (hBy y).size) HSL.out HSH.out (by omega) (by omega)
                      have cM2 := fun y : After wr => law_most A A' c c' v lo hi (ac j) y.w ((HRX.out.below (hBy y)).more (hBy y).size) ((HRY.out.below (hBy y)).more (hBy y).size) HSL.out HSH.out (by rw [ac_div]; omega) (by have := ac_lt hjt; omega)
                      have cA := fun W => ref_Across j W (by omega)
                      have m1 := mostV_small HSL.out HSH.out i
                      have m2 := mostV_small HSL.out HSH.out (ac j)
                      have hac : ac j < 2 * v := ac_lt hjt
                      clear hij hBy HX
                      generalize mostV lo hi i = y1 at *
                      generalize mostV lo hi (ac j) = y2 at *
                      generalize ac j = aj at *
                      have e1 : (i : Int) * 2 * (v : Int) = ((i * (2 * v) : Nat) : Int) := by push_cast; rw [Int.mul_assoc]
                      generalize i * (2 * v) = p at *
                      have hpi : ((p + j : Nat) : Int) < (L2 : Int) := by omega
                      obtain ⟨b0, b1, b2⟩ := id hR.box.box
                      have a0 := After.cell b0
                      have a1 := After.cell b1
                      have a2 := After.cell b2
                      clear b0 b1 b2
                      go_wp2_with fail
                      refine wp_region_mix [(18, 2)] (by kernel_rfl) (by kernel_rfl) ?_
                      simp only [wpMix, List.take_succ_cons, List.take_zero, List.drop_succ_cons, List.drop_zero]
                      repeat (go_big_quiet_step (first | (go_at_call 20; with_reducible exact after_of (cM1 _)) | (go_at_call 20; with_reducible exact after_of (cM2 _)) | (go_at_call 21; with_reducible exact after_same (cA _))))
                      refine wpQuiet_nil ?_
                      intro w7 hb7
                      have hR7 := hR.go hb7
                      have k1 := hR7.row.cellAt (i := p + j) (by rw [hR7.len]; exact hp)
                      have kf := hR7.row.frozenAt (p + j)
                      have hP := Lib.hid (hR7.set (p + j) (y1 + y2))
                      clear hR hR7 hb7 a0 a1 a2 cM1 cM2 cA
                      go_wp2_with fail
                      refine mixQ_normal (wpQuiet_nil ?_)
                      intro w8 hb8
                      have hR8 := Lib.hid (hP.out.go hb8)
                      clear hP hb8 k1 kf
                      go_wp2_with fail
                      go_roundw
                      case rel => exact ⟨j + 1, by go_num, by omega, X.set (p + j) (y1 + y2), Lib.hid HE.out, hR8.out⟩
                      case measure => simp [intOf]; omega
                  · have hjn : 2 * v = j := by omega
                    have HXn := Lib.hid (show X = fillI v lo hi (i + 1) (topM (2 * v)) by rw [HX.out, ← hjn, HX1.out]; rfl)
                    have hdj : decide ((j : Int) < 2 * (v : Int)) = false := decide_eq_false (by omega)
                    clear HX HX1 hjn
                    go_wp2_with fail
                    go_roundw
                    case rel => exact ⟨i + 1, by go_num, by omega, X, Lib.hid HXn.out, hR⟩
                    case measure => simp [intOf]; omega
              · have hin : 2 * v = i := by omega
                have HXn := Lib.hid (show X1 = boxW v lo hi by rw [HX1.out, ← hin, fill_all])
                have hdi : decide ((i : Int) < 2 * (v : Int)) = false := decide_eq_false (by omega)
                have hP9 := hP4.below (hR1.below.mono (Nat.le_refl _))
                have hr2 := hR1.row.rd
                rw [hR1.len] at hr2
                have cH := help_Oct v v false false A2 (some ⟨g2, 0, none⟩) c2 L2 Ma X1 wr ((ho4.rd.below hR1.below).more hR1.below.size) (by rw [hR1.len]; exact hr2) (by rw [HMa.out, ← HXn.out, hR1.len, HML2.out, sq2]; have := sq_le (n := v) (by omega); omega) (by rw [hR1.len, HML2.out, sq2]; have := sq_le (n := v) (by omega); omega)
                rw [decide_eq_true ⟨rfl, rfl, HMa.out.trans HXn.out.symm⟩, hR1.len] at cH
                obtain ⟨p0, p1, p2⟩ := id hP9
                obtain ⟨q0, q1, q2⟩ := id hR1.box.box
                have hBw := Lib.hid (hB4.trans (hR1.below.mono hB4.size))
                have hws := (hB4.trans (hR1.below.mono hB4.size)).size
                clear HX1 hin HXn
                go_wp2_with fail
                refine cH.mono ?_
                rintro e w9 ⟨rfl, hb9⟩
                have hend := Lib.hid (hBw.out.trans (hb9.mono hws))
                clear hb9
                go_wp2_with fail
                go_ret
                exact ⟨rfl, hend.out⟩
          · obtain rfl := HE1.out rfl
            clear HE1 HE0
            obtain ⟨p0, p1, p2⟩ := id hP4
            have hp : w4.cell? ⟨w3.heap.size, 1, none⟩ = some (.bool true) := p1
            rw [HW4.out] at p0 p1 p2
            go_wp2_with fail
            rw [← HW4.out]
            clear HW4
            go_ret
            exact ⟨rfl, hB4⟩
    · have hne : ((hi.length : Int) != (lo.length : Int)) = true := bne_iff_ne.2 (by omega)
      have hd : decide ((6 : Int) < (lo.length : Int)) = false := decide_eq_false (by omega)
      clear hx hy hl hh hle hn
      go_wp2_with fail
      go_ret
      exact ⟨rfl, hb1⟩
  · have hd : decide ((6 : Int) < (lo.length : Int)) = true := decide_eq_true (by omega)
    clear hx hy hl hh hn
    go_wp2_with fail
    go_ret
    exact ⟨rfl, hb1⟩
end Go.Proofs.Ytgganboepfikiaa
