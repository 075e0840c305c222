/- The walk of the statement CloseRounds. -/
import Derived.Test.YtgganboepfikiaaCcl
import Derived.Test.YtgganboepfikiaaCch
import Derived.Test.YtgganboepfikiaaObx
import Derived.Test.YtgganboepfikiaaDbc
namespace Go.Proofs.Ytgganboepfikiaa
open Go.RowKit
set_option linter.unusedVariables false
set_option linter.unusedSimpArgs false
open Gn
set_option maxRecDepth 100000 in
set_option maxHeartbeats 40000000 in
theorem law_CloseRounds (A : Option Addr) (c : Nat) (ws : List Int) (w : World) (hx : Rd w w.heap.size .i16 A ws.length (nth ws)) (hl0 : ∀ v ∈ ws, small v) (hlm : (ws.length : Int) ≤ 9223372036854775807) :
    Calls Try.prog 4 #[.slice A ws.length c] w fun e w' => e = .returned (.bool true) ∧ Below w.heap.size w w' := by
  have hl := small_nth hl0
  clear hl0
  have cK := known13 w
  go_enter Try.func4, Try.ntmps4
  go_wp2_with fail
  refine cK.mono ?_
  clear cK
  rintro e w1 ⟨rfl, hb1⟩
  by_cases hn2 : 2 ≤ ws.length
  · have hd2 : decide ((ws.length : Int) < 2) = false := decide_eq_false (by omega)
    by_cases hn : ws.length ≤ 12
    · have hd : decide ((12 : Int) < (ws.length : Int)) = false := decide_eq_false (by omega)
      obtain ⟨n, hnn⟩ : ∃ n, n = ws.length := ⟨_, rfl⟩
      have cT := fun W => ref_Top n W (by omega)
      rw [← hnn] at hn hn2 hlm hd hd2 hx ⊢
      have HRX := Lib.hid hx
      have HSL := Lib.hid hl
      have HN := Lib.hid hnn
      clear hnn hx hl
      go_wp2_with fail
      refine (cT _).mono ?_
      rintro e w2 ⟨g, M, hM, rfl, ho, hb2⟩
      have hB2 := hb1.trans (hb2.mono hb1.size)
      have hML : M.length = (2 * n) * (2 * n) := by rw [hM]; exact topM_len _
      have HM := Lib.hid hM
      have HML := Lib.hid hML
      clear hM hML
      go_wp2_with fail
      obtain ⟨w3, hw3⟩ : ∃ w3, w3 = w2.alloc (.cells #[.int .i64 n, .bool false, .slice (some ⟨g, 0, none⟩) M.length M.length] /-T-/26) := ⟨_, rfl⟩
      have hb3 : Below w2.heap.size w2 w3 := by rw [hw3]; exact (Below.refl _ _).alloc (Nat.le_refl _) _
      have hgl := ho.blockGe.2
      have hGr : Grow w w3 w2.heap.size n g M.length M :=
        ⟨by rw [hw3]; exact OctBox.new _ _ _ _ _, (ho.below hb3).lower hb1.size, by omega, rfl, hB2.trans (hb3.mono hB2.size), hB2.size⟩
      rw [← hw3]
      generalize M.length = L at *
      clear hw3 hb3 ho hb2 hB2 hb1 hd hd2 hgl
      generalize w2.heap.size = bO at *
      go_loopw [5, 6] (fun e' s' wr => ∃ v : Nat, s' = .int .i64 v ∧ v ≤ n ∧ e' = .int .i64 (sumW ws v) ∧ ∃ X : List Int, Hid (X = chnM n ws (fun k => (k + 1) % n) v) ∧ Grow w wr bO n g L X) (fun e s _ => n - (intOf s).toNat)
      case atStart => exact ⟨0, rfl, by omega, rfl, M, Lib.hid HM.out, hGr⟩
      case round =>
        obtain ⟨v, rfl, hv, rfl, X, HX, hR⟩ := hrel
        clear hGr HM
        rcases Nat.lt_or_ge v n with hlt | hge
        · have hx := HRX.out
          have hl := HSL.out
          clear HRX HSL
          have hq : (v + 1) % n < n := Nat.mod_lt _ (by omega)
          have hqm : ((v : Int) + 1).tmod (n : Int) = (((v + 1) % n : Nat) : Int) := by
            rw [Int.tmod_eq_emod_of_nonneg (by omega)]; push_cast; rfl
          have hqv : (v + 1) % n ≠ v := by
            intro h
            by_cases h1 : v + 1 < n
            · rw [Nat.mod_eq_of_lt h1] at h; omega
            · have h2 : v + 1 = n := by omega
              rw [h2, Nat.mod_self] at h; omega
          have cB1 := fun (W : World) (h : Grow w W bO n g L X) => h.bound (by omega) HML.out (nth ws v) (show 2 * v < 2 * n by omega) (show 2 * ((v + 1) % n) < 2 * n by omega) (by omega)
          rw [show ((2 * v : Nat) : Int) = 2 * (v : Int) by push_cast; rfl, show ((2 * ((v + 1) % n) : Nat) : Int) = 2 * (((v + 1) % n : Nat) : Int) by push_cast; rfl] at cB1
          have HS := Lib.hid (show boundM (2 * n) X (2 * v) (2 * ((v + 1) % n)) (nth ws v) = chnM n ws (fun k => (k + 1) % n) (v + 1) by rw [HX.out]; rfl)
          have HE := Lib.hid (show sumW ws v + nth ws v = sumW ws (v + 1) from rfl)
          have sb := sumW_bd hl v
          generalize boundM (2 * n) X (2 * v) (2 * ((v + 1) % n)) (nth ws v) = X1 at *
          generalize (v + 1) % n = q at *
          obtain ⟨gh, oh, rfl, hgh, hch⟩ := hx (by omega)
          have kh0 := hch v (by omega)
          have kh : ∀ W : World, Below w.heap.size w W → W.cell? ⟨gh, oh + v, none⟩ = some (.int .i16 (nth ws v)) := fun W hb => (hb.cell (p := ⟨gh, oh + v, none⟩) hgh).trans kh0
          have s1 := hl v
          unfold small at s1
          clear kh0 hch hx hl
          generalize nth ws v = yh at *
          generalize sumW ws v = sv at *
          have q1 : (v : Int) < (n : Int) := by omega
          have hnz : ((n : Int) == 0) = false := beq_eq_false_iff_ne.2 (by omega)
          have hq2 : (q : Int) < 12 := by omega
          obtain ⟨p0, p1, p2⟩ := id hR.box.box
          have a0 := After.cell p0
          have a1 := After.cell p1
          have a2 := After.cell p2
          have a3 := After.cell (kh _ hR.below)
          clear p0 p1 p2
          go_wp2_with fail
          refine wp_region_mix [(13, 2)] (by kernel_rfl) (by kernel_rfl) ?_
          simp only [wpMix, List.take_succ_cons, List.take_zero, List.drop_succ_cons, List.drop_zero]
          repeat (go_big_quiet_step (fail))
          refine wpQuiet_nil ?_
          intro w6 hb6
          have hR6 := hR.go hb6
          clear hR hb6 a0 a1 a2 a3
          go_wp2_with fail
          refine (cB1 _ hR6).mono ?_
          rintro e w7 ⟨rfl, hR7⟩
          clear hR6 cB1
          obtain ⟨p0, p1, p2⟩ := id hR7.box.box
          have pf := hR7.box.fz
          have hP := Lib.hid hR7.put
          clear hR7
          go_wp2_with fail
          clear p0 p1 p2 pf
          refine mixQ_normal (wpQuiet_nil ?_)
          intro w8 hb8
          have hR8 := hP.out.go hb8
          clear hP hb8
          have ky := kh _ hR8.below
          go_wp2_with fail
          go_roundw
          case rel => exact ⟨v + 1, by go_num, by omega, by rw [HE.out], X1, Lib.hid HS.out, hR8⟩
          case measure => simp [intOf]; omega
        · have hvn : v = n := by omega
          subst hvn
          clear hge hv
          obtain ⟨Q, hQ⟩ : ∃ Q, Q = closeP v false X := ⟨_, rfl⟩
          have hlaw := rounds_law (w := ws) hn2 hn HSL.out (Q := Q) (by rw [hQ, HX.out])
          have ht : ∀ k, k < v → (fun k => (k + 1) % v) k < v ∧ (fun k => (k + 1) % v) k ≠ k := fun k hk => by
            refine ⟨Nat.mod_lt _ (by omega), fun (h : (k + 1) % v = k) => ?_⟩
            by_cases h1 : k + 1 < v
            · rw [Nat.mod_eq_of_lt h1] at h; omega
            · have h2 : k + 1 = v := by omega
              rw [h2, Nat.mod_self] at h; omega
          have hck : chk v false X = 0 := by rw [HX.out]; exact chk_ok (by omega) (by rw [chnM_len, sq2]) (chn_ok HSL.out (Nat.le_refl _) ht)
          have hLn : (L : Int) ≤ 17592186043904 := by
            have := sq_le (n := v) (by omega)
            rw [HML.out, sq2]; omega
          have cC := close_CloseW v false (some ⟨g, 0, none⟩) L X wr (hR.row.oct (by unfold I64; omega) (chk_ints hck)) (by rw [hR.len]; exact hLn) Q hQ.symm
          rw [hR.len] at cC
          obtain ⟨⟨⟨Na, Ea, Ma⟩, sa⟩, ea⟩ := Q
          dsimp only at hlaw
          obtain ⟨rfl, rfl, rfl, rfl⟩ := hlaw
          clear hck hQ HX ht
          generalize sumW ws v = sv at *
          by_cases hneg : sv < 0
          · have hdn : decide (sv < 0) = true := decide_eq_true hneg
            rw [hdn] at cC
            obtain ⟨p0, p1, p2⟩ := id hR.box.box
            go_wp2_with fail
            refine cC.mono ?_
            clear cC
            rintro e w3 ⟨A2, c2, rfl, ho3, hb3⟩
            have hB3 := hR.below.trans (hb3.mono hR.below.size)
            clear hR p0 p1 p2 hb3
            have hbb := OctAt.box w3 26 v true (.slice A2 Ma.length c2)
            obtain ⟨p0, p1, p2⟩ := id hbb
            have hB4 := hB3.alloc (Nat.le_trans (Nat.le_refl _) hB3.size) (.cells #[.int .i64 v, .bool true, .slice A2 Ma.length c2] 26)
            go_wp2_with fail
            go_ret
            exact ⟨rfl, hB4⟩
          · have hdn : decide (sv < 0) = false := decide_eq_false hneg
            rw [hdn] at cC
            obtain ⟨p0, p1, p2⟩ := id hR.box.box
            go_wp2_with fail
            refine cC.mono ?_
            clear cC
            rintro e w3 ⟨A2, c2, rfl, ho3, hb3⟩
            have hB3 := hR.below.trans (hb3.mono hR.below.size)
            clear hR p0 p1 p2 hb3
            have hbb := OctAt.box w3 26 v false (.slice A2 Ma.length c2)
            obtain ⟨p0, p1, p2⟩ := id hbb
            have hB4 := hB3.alloc (Nat.le_trans (Nat.le_refl _) hB3.size) (.cells #[.int .i64 v, .bool false, .slice A2 Ma.length c2] 26)
            go_wp2_with fail
            go_ret
            exact ⟨rfl, hB4⟩
    · have hd : decide ((12 : Int) < (ws.length : Int)) = true := decide_eq_true (by omega)
      clear hx hl hn
      go_wp2_with fail
      go_ret
      exact ⟨rfl, hb1⟩
  · have hd2 : decide ((ws.length : Int) < 2) = true := decide_eq_true (by omega)
    clear hx hl hn2
    go_wp2_with fail
    go_ret
    exact ⟨rfl, hb1⟩
end Go.Proofs.Ytgganboepfikiaa
