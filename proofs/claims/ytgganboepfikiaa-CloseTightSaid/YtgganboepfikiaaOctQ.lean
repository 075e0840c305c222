/- Walks: Equal, of the packages dbm and gnomonref12. -/
import Derived.Test.YtgganboepfikiaaOctE
namespace Go.Proofs.Ytgganboepfikiaa
open Go.RowKit
set_option linter.unusedVariables false
set_option linter.unusedSimpArgs false
open Gn
theorem maxLen_le {c : Nat} (h : c ≤ maxLen) : (c : Int) ≤ 9223372036854775807 := by unfold maxLen at h; omega
section
variable {w w' : World} {B : Nat} {A : Option Addr} {c : Nat} {N : Int} {M : List Int}
theorem OctIn.below (h : OctIn w B A c N M) (hb : Below B w w') : OctIn w' B A c N M := ⟨h.hN, h.rd.below hb, h.i64, h.le, h.max⟩
theorem OctIn.more (h : OctIn w B A c N M) {B' : Nat} (hB : B ≤ B') : OctIn w B' A c N M := ⟨h.hN, h.rd.more hB, h.i64, h.le, h.max⟩
theorem OctIn.go (h : OctIn w w.heap.size A c N M) (hb : Below w.heap.size w w') : OctIn w' w'.heap.size A c N M := (h.below hb).more hb.size
theorem OctIn.len (h : OctIn w B A c N M) : (M.length : Int) ≤ 9223372036854775807 := by
  have := maxLen_le h.max
  have := h.le
  omega
end
/-- Are two octagons the same, and may they be? -/
def eqO (N N' : Int) (E E' : Bool) (M M' : List Int) : Bool := decide (chk N E M = 0 ∧ chk N' E' M' = 0 ∧ N = N' ∧ E = E' ∧ M = M')
theorem eqO_def (N N' : Int) (E E' : Bool) (M M' : List Int) : eqO N N' E E' M M' = decide (chk N E M = 0 ∧ chk N' E' M' = 0 ∧ N = N' ∧ E = E' ∧ M = M') := rfl
set_option maxHeartbeats 1000000 in
theorem ref_Same (N N' : Int) (E E' : Bool) (A A' : Option Addr) (c c' : Nat) (xs ys : List Int) (w : World) (hx : Rd w w.heap.size .i64 A xs.length (nth xs)) (hy : Rd w w.heap.size .i64 A' ys.length (nth ys)) (hm : (xs.length : Int) ≤ 9223372036854775807) (hm' : (ys.length : Int) ≤ 9223372036854775807) :
    Calls Try.prog 72 #[.agg #[.int .i64 N, .bool E, .slice A xs.length c], .agg #[.int .i64 N', .bool E', .slice A' ys.length c']] w fun e w' => e = .returned (.bool (decide (N = N' ∧ E = E' ∧ xs = ys))) ∧ Below w.heap.size w w' := by
  obtain ⟨W, hW, h1, h2, hB, hs⟩ := two_boxes w 26 N N' E E' (.slice A xs.length c) (.slice A' ys.length c')
  have hxW := hx.below hB
  have hyW := hy.below hB
  have HW : Hid (Below w.heap.size w ((w.alloc (.cells #[.int .i64 N, .bool E, .slice A xs.length c] /-T-/26)).alloc (.cells #[.int .i64 N', .bool E', .slice A' ys.length c'] /-T-/26))) := Lib.hid (by rw [← hW]; exact hB)
  by_cases hn : N = N'
  · subst hn
    by_cases he : E = E'
    · subst he
      by_cases hl : xs.length = ys.length
      · have hl' : ((xs.length : Int) != ys.length) = false := bne_eq_false_iff_eq.2 (by omega)
        rw [show decide (N = N ∧ E = E ∧ xs = ys) = decide (xs = ys) by simp]
        have HL := Lib.hid hl
        clear hl hx hy HW
        go_enter Try.func72, Try.ntmps72
        go_wp2_with fail
        rw [← hW]
        clear hW
        go_loopw [5] (fun s wr => ∃ i : Nat, s = .int .i64 i ∧ i ≤ xs.length ∧ (∀ k, k < i → nth xs k = nth ys k) ∧ Below W.heap.size W wr) (fun s _ => xs.length - (intOf s).toNat)
        case atStart => exact ⟨0, rfl, by omega, fun _ h => absurd h (by omega), Below.refl _ _⟩
        case round =>
          obtain ⟨i, rfl, hi, hk, hBr⟩ := hrel
          rename_i wr _
          have HK := Lib.hid hk
          clear hk
          obtain ⟨k0, k1, k2⟩ := h1.below hBr
          obtain ⟨l0, l1, l2⟩ := h2.below hBr
          have HB := Lib.hid (hB.trans (hBr.mono (by omega)))
          rcases Nat.lt_or_ge i xs.length with hlt | hge
          · have hlt2 : i < ys.length := by rw [← HL.out]; exact hlt
            obtain ⟨g, off, rfl, hg, hc⟩ := (hxW.below (hBr.mono (by omega))) (by omega)
            obtain ⟨g', off', rfl, hg', hc'⟩ := (hyW.below (hBr.mono (by omega))) (by omega)
            have m1 := hc i hlt
            have m2 := hc' i hlt2
            obtain ⟨v, hv0⟩ : ∃ v, v = nth xs i := ⟨_, rfl⟩
            obtain ⟨v', hv1⟩ : ∃ v, v = nth ys i := ⟨_, rfl⟩
            rw [← hv0] at m1
            rw [← hv1] at m2
            have HX := Lib.hid (show (v = v' → nth xs i = nth ys i) ∧ (v ≠ v' → xs ≠ ys) from ⟨fun h => by rw [← hv0, ← hv1, h], fun h e => h (by rw [hv0, hv1, e])⟩)
            clear hv0 hv1 hxW hyW hc hc' h1 h2
            have a1 := After.cell k2
            have a2 := After.cell l2
            have a3 := After.cell m1
            have a4 := After.cell m2
            have q1 : (i : Int) < (xs.length : Int) := by omega
            have q2 : (i : Int) < (ys.length : Int) := by omega
            have q3 : (0 : Int) ≤ (i : Int) := by omega
            have HBr := Lib.hid hBr
            clear hBr
            by_cases hv : v = v'
            · have hb : (v != v') = false := bne_eq_false_iff_eq.2 hv
              have HV := Lib.hid hv
              clear hv
              go_wp2_with fail
              refine wp_region_after (by kernel_rfl) (by kernel_rfl) ?_
              repeat (go_big_quiet_step (fail))
              refine wpQuiet_nil ?_
              intro w2 hb2
              have HB2 := Lib.hid (HBr.out.trans (hb2.mono HBr.out.size))
              clear hb2 a1 a2 a3 a4
              go_wp2_with fail
              go_roundw
              case rel => exact ⟨i + 1, by go_num, by omega, fun k h => by
                rcases Nat.lt_or_ge k i with h1 | h1
                · exact HK.out k h1
                · obtain rfl : k = i := by omega
                  exact HX.out.1 HV.out, HB2.out⟩
              case measure => simp [intOf]; omega
            · have hb : (v != v') = true := bne_iff_ne.2 hv
              have HV := Lib.hid hv
              clear hv
              go_wp2_with fail
              refine wp_region_after (by kernel_rfl) (by kernel_rfl) ?_
              repeat (go_big_quiet_step (fail))
              refine wpQuiet_nil ?_
              intro w2 hb2
              have HB2 := Lib.hid (HB.out.trans (hb2.mono HB.out.size))
              clear hb2 a1 a2 a3 a4
              go_wp2_with fail
              go_ret
              rw [show decide (xs = ys) = false from decide_eq_false (HX.out.2 HV.out)]
              exact ⟨rfl, HB2.out⟩
          · have e : xs = ys := list_eq_nth HL.out (fun k h => HK.out k (by omega))
            have hd : decide (xs = ys) = true := decide_eq_true e
            have HD := Lib.hid hd
            clear e hd
            go_wp2_with fail
            go_ret
            rw [HD.out]
            exact ⟨rfl, HB.out⟩
      · have hl' : ((xs.length : Int) != ys.length) = true := bne_iff_ne.2 (by omega)
        rw [show decide (N = N ∧ E = E ∧ xs = ys) = false from decide_eq_false (fun h => hl (by rw [h.2.2]))]
        clear hx hy hxW hyW h1 h2 hW hl
        go_enter Try.func72, Try.ntmps72
        go_wp2_with fail
        go_ret
        exact ⟨rfl, HW.out⟩
    · rw [show decide (N = N ∧ E = E' ∧ xs = ys) = false by simp [he]]
      clear hx hy hxW hyW h1 h2 hW
      cases E <;> cases E' <;> first | exact absurd rfl he | skip
      all_goals
        clear he
        go_enter Try.func72, Try.ntmps72
        go_wp2_with fail
        go_ret
        exact ⟨rfl, HW.out⟩
  · have hn' : (N != N') = true := by simp [hn]
    rw [show decide (N = N' ∧ E = E' ∧ xs = ys) = false by simp [hn]]
    clear hn hx hy hxW hyW h1 h2 hW
    go_enter Try.func72, Try.ntmps72
    go_wp2_with fail
    go_ret
    exact ⟨rfl, HW.out⟩
set_option maxHeartbeats 1000000 in
theorem ref_Equal (N N' : Int) (E E' : Bool) (A A' : Option Addr) (c c' : Nat) (xs ys : List Int) (w : World) (hx : OctIn w w.heap.size A c N xs) (hy : OctIn w w.heap.size A' c' N' ys) :
    Calls Try.prog 36 #[.agg #[.int .i64 N, .bool E, .slice A xs.length c], .agg #[.int .i64 N', .bool E', .slice A' ys.length c']] w fun e w' => e = .returned (.bool (eqO N N' E E' xs ys)) ∧ Below w.heap.size w w' := by
  obtain ⟨W, hW, h1, h2, hB, hs⟩ := two_boxes w 26 N N' E E' (.slice A xs.length c) (.slice A' ys.length c')
  have hxW := hx.go hB
  have hyW := hy.go hB
  have cX := ref_Check A c N E xs W hxW
  obtain ⟨k0, k1, k2⟩ := id h1
  obtain ⟨l0, l1, l2⟩ := id h2
  go_enter Try.func36, Try.ntmps36
  go_wp2_with fail
  rw [← hW]
  clear hW
  refine cX.mono ?_
  clear cX
  rintro e w1 ⟨rfl, hb1⟩
  have hB1 := hB.trans (hb1.mono (by omega))
  have HB1 := Lib.hid hB1
  by_cases hc1 : chk N E xs = 0
  · have hx1 := hxW.go hb1
    have hy1 := hyW.go hb1
    have cY := ref_Check A' c' N' E' ys w1 hy1
    obtain ⟨m0, m1, m2⟩ := id (h1.below hb1)
    obtain ⟨n0, n1, n2⟩ := id (h2.below hb1)
    have HC1 := Lib.hid hc1
    rw [hc1]
    clear hc1 k0 k1 k2 l0 l1 l2
    go_wp2_with fail
    refine cY.mono ?_
    clear cY
    rintro e w2 ⟨rfl, hb2⟩
    have h12 := hb1.trans (hb2.mono hb1.size)
    have hB2 := hB.trans (h12.mono (by omega))
    have HB2 := Lib.hid hB2
    by_cases hc2 : chk N' E' ys = 0
    · have hx2 := hx1.go hb2
      have hy2 := hy1.go hb2
      obtain ⟨p0, p1, p2⟩ := id (h1.below h12)
      obtain ⟨q0, q1, q2⟩ := id (h2.below h12)
      have HC2 := Lib.hid hc2
      rw [hc2]
      clear hc2 m0 m1 m2 n0 n1 n2
      have cS := ref_Same N N' E E' A A' c c' xs ys w2 hx2.rd hy2.rd hx2.len hy2.len
      have HF := Lib.hid (show eqO N N' E E' xs ys = decide (N = N' ∧ E = E' ∧ xs = ys) by rw [eqO_def, HC1.out, HC2.out]; simp)
      generalize decide (N = N' ∧ E = E' ∧ xs = ys) = d at *
      go_wp2_with fail
      refine cS.mono ?_
      clear cS
      rintro e w3 ⟨rfl, hb3⟩
      go_wp2_with fail
      go_ret
      rw [HF.out]
      exact ⟨rfl, HB2.out.trans (hb3.mono HB2.out.size)⟩
    · have hf : (chk N' E' ys == 0) = false := beq_eq_false_iff_ne.2 hc2
      have HF := Lib.hid (show eqO N N' E E' xs ys = false from decide_eq_false (fun h => hc2 h.2.1))
      generalize chk N' E' ys = cc at *
      clear hc2
      go_wp2_with fail
      go_ret
      rw [HF.out]
      exact ⟨rfl, HB2.out⟩
  · have hf : (chk N E xs == 0) = false := beq_eq_false_iff_ne.2 hc1
    have HF := Lib.hid (show eqO N N' E E' xs ys = false from decide_eq_false (fun h => hc1 h.1))
    generalize chk N E xs = cc at *
    clear hc1
    go_wp2_with fail
    go_ret
    rw [HF.out]
    exact ⟨rfl, HB1.out⟩
set_option maxHeartbeats 1000000 in
theorem dbm_Equal (N N' : Int) (E E' : Bool) (A A' : Option Addr) (c c' : Nat) (xs ys : List Int) (w : World) (hx : OctIn w w.heap.size A c N xs) (hy : OctIn w w.heap.size A' c' N' ys) :
    Calls Try.prog 35 #[.agg #[.int .i64 N, .bool E, .slice A xs.length c], .agg #[.int .i64 N', .bool E', .slice A' ys.length c']] w fun e w' => e = .returned (.bool (eqO N N' E E' xs ys)) ∧ Below w.heap.size w w' := by
  obtain ⟨W, hW, h1, h2, hB, hs⟩ := two_boxes w 26 N N' E E' (.slice A xs.length c) (.slice A' ys.length c')
  have hxW := hx.go hB
  have hyW := hy.go hB
  have cX := dbm_Check A c N E xs W hxW
  obtain ⟨k0, k1, k2⟩ := id h1
  obtain ⟨l0, l1, l2⟩ := id h2
  go_enter Try.func35, Try.ntmps35
  go_wp2_with fail
  rw [← hW]
  clear hW
  refine cX.mono ?_
  clear cX
  rintro e w1 ⟨rfl, hb1⟩
  have hB1 := hB.trans (hb1.mono (by omega))
  have HB1 := Lib.hid hB1
  by_cases hc1 : chk N E xs = 0
  · have hx1 := hxW.go hb1
    have hy1 := hyW.go hb1
    have cY := dbm_Check A' c' N' E' ys w1 hy1
    obtain ⟨m0, m1, m2⟩ := id (h1.below hb1)
    obtain ⟨n0, n1, n2⟩ := id (h2.below hb1)
    have HC1 := Lib.hid hc1
    rw [hc1]
    clear hc1 k0 k1 k2 l0 l1 l2
    go_wp2_with fail
    refine cY.mono ?_
    clear cY
    rintro e w2 ⟨rfl, hb2⟩
    have h12 := hb1.trans (hb2.mono hb1.size)
    have hB2 := hB.trans (h12.mono (by omega))
    have HB2 := Lib.hid hB2
    by_cases hc2 : chk N' E' ys = 0
    · have hx2 := hx1.go hb2
      have hy2 := hy1.go hb2
      obtain ⟨p0, p1, p2⟩ := id (h1.below h12)
      obtain ⟨q0, q1, q2⟩ := id (h2.below h12)
      have HC2 := Lib.hid hc2
      rw [hc2]
      clear hc2 m0 m1 m2 n0 n1 n2
      by_cases hn : N = N'
      · have hn' : (N == N') = true := by simp [hn]
        by_cases he : E = E'
        · have he' : (E == E') = true := by simp [he]
          have cS := slices_EqualI64 A A' c c' xs ys w2 hx2.rd hy2.rd hx2.len hy2.len
          have HF := Lib.hid (show eqO N N' E E' xs ys = decide (xs = ys) by rw [eqO_def, HC1.out, HC2.out]; simp [hn, he])
          clear hn he
          generalize decide (xs = ys) = d at *
          go_wp2_with fail
          refine cS.mono ?_
          clear cS
          rintro e w3 ⟨rfl, hb3⟩
          go_wp2_with fail
          go_ret
          rw [HF.out]
          exact ⟨rfl, HB2.out.trans (hb3.mono HB2.out.size)⟩
        · have HF := Lib.hid (show eqO N N' E E' xs ys = false from decide_eq_false (fun h => he h.2.2.2.1))
          clear hn
          cases E <;> cases E' <;> first | exact absurd rfl he | skip
          all_goals
            clear he
            go_wp2_with fail
            go_ret
            rw [HF.out]
            exact ⟨rfl, HB2.out⟩
      · have hn' : (N == N') = false := by simp [hn]
        have HF := Lib.hid (show eqO N N' E E' xs ys = false from decide_eq_false (fun h => hn h.2.2.1))
        clear hn
        go_wp2_with fail
        go_ret
        rw [HF.out]
        exact ⟨rfl, HB2.out⟩
    · have hf : (chk N' E' ys == 0) = false := beq_eq_false_iff_ne.2 hc2
      have HF := Lib.hid (show eqO N N' E E' xs ys = false from decide_eq_false (fun h => hc2 h.2.1))
      generalize chk N' E' ys = cc at *
      clear hc2
      go_wp2_with fail
      go_ret
      rw [HF.out]
      exact ⟨rfl, HB2.out⟩
  · have hf : (chk N E xs == 0) = false := beq_eq_false_iff_ne.2 hc1
    have HF := Lib.hid (show eqO N N' E E' xs ys = false from decide_eq_false (fun h => hc1 h.1))
    generalize chk N E xs = cc at *
    clear hc1
    go_wp2_with fail
    go_ret
    rw [HF.out]
    exact ⟨rfl, HB1.out⟩
end Go.Proofs.Ytgganboepfikiaa
