/- The walk of the statement DbmWith. -/
import Derived.Test.YtgganboepfikiaaDbc
import Derived.Test.YtgganboepfikiaaDbp
namespace Go.Proofs.Ytgganboepfikiaa
open Go.RowKit
set_option linter.unusedVariables false
set_option linter.unusedSimpArgs false
open Gn
theorem mem_set {xs : List Int} {i : Nat} {v y : Int} (h : y ∈ xs.set i v) : y = v ∨ y ∈ xs := by
  rcases List.mem_or_eq_of_mem_set h with h | h
  · exact .inr h
  · exact .inl h
theorem withP_ints {N : Int} {E : Bool} {M : List Int} {i j b : Int} (hM : ∀ v ∈ M, I64 v) : ∀ v ∈ (withP N E M i j b).1.2.2, I64 v := by
  unfold withP
  intro v
  split
  · intro h; simp at h
  split
  · intro h; simp at h
  split
  · intro h; simp at h
  split
  · split
    · intro h; simp at h
    · exact hM v
  · intro h
    have hcl : I64 (cl (2 * N.toNat) M i.toNat j.toNat) := by
      unfold cl nth
      by_cases hlt : i.toNat * (2 * N.toNat) + j.toNat < M.length
      · exact hM _ (nth_mem hlt)
      · rw [List.getD_eq_getElem?_getD, List.getElem?_eq_none (by omega)]; unfold I64; simp
    have hmin : I64 (min (cl (2 * N.toNat) M i.toNat j.toNat) (asB b)) := by
      have := (asB_bd b).i64
      unfold I64 at *; omega
    rcases mem_set h with rfl | h
    · exact hmin
    rcases mem_set h with rfl | h
    · exact hmin
    · exact hM v h
set_option maxHeartbeats 4000000 in
theorem law_DbmWith (N : Int) (E : Bool) (A : Option Addr) (c : Nat) (M : List Int) (i j b : Int) (A' : Option Addr) (c' : Nat) (x : List Int) (w : World) (h : OctIn w w.heap.size A c N M) (hM : (M.length : Int) ≤ 17592186043904)
    (hx : Rd w w.heap.size .i64 A' x.length (nth x)) (hxi : ∀ v ∈ x, I64 v) (hxm : (x.length : Int) ≤ 9223372036854775807) :
    Calls Try.prog 7 #[.agg #[.int .i64 N, .bool E, .slice A M.length c], .int .i64 i, .int .i64 j, .int .i64 b, .slice A' x.length c'] w fun e w' => e = .returned (.bool true) ∧ Below w.heap.size w w' := by
  obtain ⟨W, hW, hO, hB, hs⟩ := one_box w 26 N E (.slice A M.length c)
  have h0 := h.go hB
  have hx0 := (hx.below hB).more hB.size
  have cK := known12 W
  have hfit := withP_fits (N := N) (E := E) (M := M) (i := i) (j := j) (b := b) h.hN hM
  have HL := Lib.hid (fun he hxl => withP_has (N := N) (E := E) (M := M) (x := x) (i := i) (j := j) (c := b) he hxl)
  go_enter Try.func7, Try.ntmps7
  go_wp2_with fail
  rw [← hW]
  clear hW
  refine cK.mono ?_
  clear cK
  rintro e w1 ⟨rfl, hb1⟩
  have h1 := h0.go hb1
  have hx1 := (hx0.below hb1).more hb1.size
  have hO1 := hO.below hb1
  have hB1 := hB.trans (hb1.mono (by omega))
  clear hb1 h0 hO hB h hx0 hx
  obtain ⟨k0, k1, k2⟩ := id hO1
  go_wp2_with fail
  refine (dbm_With N E A c M i j b w1 h1 hM).mono ?_
  rintro e w2 ⟨A2, c2, rfl, ho2, hb2⟩
  have h2 := h1.go hb2
  have hx2 := (hx1.below hb2).more hb2.size
  have hO2 := hO1.below hb2
  have hB2 := hB1.trans (hb2.mono hB1.size)
  have hlt := hO2.lt
  clear hb2 h1 hx1 hO1 hB1 k0 k1 k2
  have hMi := withP_ints (N := N) (E := E) (i := i) (j := j) (b := b) h2.i64
  generalize withP N E M i j b = P at *
  obtain ⟨⟨N2, E2, M2⟩, e2⟩ := P
  dsimp only at ho2 hfit hMi HL ⊢
  obtain ⟨k0, k1, k2⟩ := id hO2
  by_cases he2 : e2 = 0
  · subst he2
    by_cases hxl : (x.length : Int) = N
    · obtain ⟨n, p, q, rfl, hn, rfl, rfl, hp, hq, hlaw⟩ := HL.out rfl hxl
      have hxb : ((x.length : Int) != n) = false := bne_eq_false_iff_eq.2 hxl
      have HX := Lib.hid hxl
      clear hxl HL
      have hp2 : p / 2 < x.length := by have := HX.out; omega
      have hq2 : q / 2 < x.length := by have := HX.out; omega
      have cD := fun (X : World) (hX : Rd X X.heap.size .i64 A' x.length (nth x)) => ref_Diff A' c' x p q X hX hxi hp2 hq2 hxm (by omega) (by omega)
      have HLaw := Lib.hid hlaw
      clear hlaw hp2 hq2
      obtain ⟨w3, hw3⟩ : ∃ w3, w3 = w2.alloc (.cells #[.int .i64 N2, .bool E2, .slice A2 M2.length c2] /-T-/26) := ⟨_, rfl⟩
      have hP3 : OctAt w3 w2.heap.size N2 E2 (.slice A2 M2.length c2) := by rw [hw3]; exact OctAt.box _ _ _ _ _
      have hb3 : Below w2.heap.size w2 w3 := by rw [hw3]; exact (Below.refl _ _).alloc (Nat.le_refl _) _
      have h3 := h2.go hb3
      have hx3 := (hx2.below hb3).more hb3.size
      have hO3 := hO2.below hb3
      have ho3 := ho2.below hb3
      have hB3 := hB2.trans (hb3.mono hB2.size)
      have hcc := asB_fits (c := b)
      have HCC := Lib.hid hcc
      clear hcc
      by_cases hbig : 4611686018427387904 < b
      · have hk : keepB (apartV x p q) b = true := by unfold keepB; exact decide_eq_true (.inl hbig)
        have hlaw := HLaw.out
        rw [hk] at hlaw
        have HL1 := Lib.hid hlaw
        clear hk hlaw
        go_wp2_with fail
        rw [← hw3]
        clear hw3 k0 k1 k2 cD
        obtain ⟨w5, hw5⟩ : ∃ w5, w5 = w3 := ⟨_, rfl⟩
        rw [← hw5] at hP3 h3 hx3 hO3 ho3 hB3 ⊢
        have hP5 := hP3
        have h5 := h3
        have hx5 := hx3
        have hO5 := hO3
        have ho5 := ho3
        have hB5 := hB3
        have hlaw := HL1.out
        clear hP3 h3 hx3 hO3 ho3 hB3 hw5 HL1
        obtain ⟨p0, p1, p2⟩ := id hP5
        obtain ⟨q0, q1, q2⟩ := id hO5
        have a0 := After.cell p0
        have a1 := After.cell p1
        have a2 := After.cell p2
        have a3 := After.cell q0
        have a4 := After.cell q1
        have a5 := After.cell q2
        have c1 := fun y : After w5 => dbm_Has N2 E2 A2 c2 M2 A' c' x y.w ((ho5.oct hfit.1 hMi).go y.below) ((hx5.below y.below).more y.below.size) hxi hxm
        have c2 := fun y : After w5 => dbm_Has n E A c M A' c' x y.w (h5.go y.below) ((hx5.below y.below).more y.below.size) hxi hxm
        rw [hlaw] at c1
        clear hlaw p0 p1 p2 q0 q1 q2 h5 hx5 ho5 hO5 hP5
        generalize hasO n E M x = hb at *
        rcases hb with _ | _
        all_goals
          simp only [Bool.true_and, Bool.false_and] at c1
          refine wp_region_after (by kernel_rfl) (by kernel_rfl) ?_
          repeat (go_big_quiet_step (first | (go_at_call 27; with_reducible exact after_of (c1 _)) | (go_at_call 27; with_reducible exact after_of (c2 _))))
          refine wpQuiet_nil ?_
          intro w6 hb6
          have hB6 := hB5.trans (hb6.mono hB5.size)
          clear hb6 a0 a1 a2 a3 a4 a5 hB5
          go_wp2_with fail
          go_ret
          exact ⟨rfl, hB6⟩
      · have hcc := HCC.out hbig
        have hm : (if b < -4611686018427387904 then -4611686018427387904 else b) = asB b := by rw [hcc]; split <;> omega
        have HM := Lib.hid hm
        have hdf : (diffF (apartV x p q) = 1 ∧ 4611686018427387904 < apartV x p q) ∨ (diffF (apartV x p q) = -1 ∧ apartV x p q < -4611686018427387904) ∨ (diffF (apartV x p q) = 0 ∧ diffV (apartV x p q) = apartV x p q) := by
          unfold diffF diffV
          by_cases h1 : 4611686018427387904 < apartV x p q
          · left; rw [if_pos h1]; exact ⟨rfl, h1⟩
          · by_cases h2 : apartV x p q < -4611686018427387904
            · right; left; rw [if_neg h1, if_pos h2]; exact ⟨rfl, h2⟩
            · right; right; rw [if_neg h1, if_neg h2, if_neg h1, if_neg h2]; exact ⟨rfl, rfl⟩
        have hways : (diffF (apartV x p q) < 0 ∧ keepB (apartV x p q) b = true) ∨ (¬ diffF (apartV x p q) < 0 ∧ (diffF (apartV x p q) == 0) = false ∧ keepB (apartV x p q) b = false) ∨ (¬ diffF (apartV x p q) < 0 ∧ (diffF (apartV x p q) == 0) = true ∧ diffV (apartV x p q) ≤ asB b ∧ keepB (apartV x p q) b = true) ∨ (¬ diffF (apartV x p q) < 0 ∧ (diffF (apartV x p q) == 0) = true ∧ ¬ diffV (apartV x p q) ≤ asB b ∧ keepB (apartV x p q) b = false) := by
          have hab : -4611686018427387904 ≤ asB b ∧ asB b ≤ 4611686018427387904 := by rw [hcc]; omega
          unfold keepB
          simp only [beq_iff_eq, beq_eq_false_iff_ne, decide_eq_true_eq, decide_eq_false_iff_not]
          rcases hdf with ⟨h1, h2⟩ | ⟨h1, h2⟩ | ⟨h1, h2⟩
          · right; left; omega
          · left; omega
          · by_cases h3 : apartV x p q ≤ asB b
            · right; right; left; omega
            · right; right; right; omega
        have HWays := Lib.hid hways
        have hbig' : b ≤ 4611686018427387904 := by omega
        clear hcc hm hdf hways hbig
        obtain ⟨kb, hkb⟩ : ∃ k, k = keepB (apartV x p q) b := ⟨_, rfl⟩
        obtain ⟨df, hdf⟩ : ∃ k, k = diffF (apartV x p q) := ⟨_, rfl⟩
        obtain ⟨dv, hdv⟩ : ∃ k, k = diffV (apartV x p q) := ⟨_, rfl⟩
        rw [← hkb] at HLaw HWays
        rw [← hdf, ← hdv] at HWays cD
        clear hkb hdf hdv
        generalize asB b = ab at *
        go_wp2_with fail
        rw [← hw3]
        clear hw3 k0 k1 k2
        refine (cD w3 hx3).mono ?_
        clear cD
        rintro e w5 ⟨rfl, hb5⟩
        have hP5 := hP3.below hb5
        have h5 := h3.go hb5
        have hx5 := (hx3.below hb5).more hb5.size
        have hO5 := hO3.below hb5
        have ho5 := ho3.below hb5
        have hB5 := hB3.trans (hb5.mono hB3.size)
        clear hb5 hP3 h3 hx3 hO3 ho3 hB3 hO2 h2 hx2 ho2 hB2
        have hm := HM.out
        have hlaw := HLaw.out
        rcases HWays.out with ⟨d1, rfl⟩ | ⟨d1, d2, rfl⟩ | ⟨d1, d2, d3, rfl⟩ | ⟨d1, d2, d3, rfl⟩
        · have hlaw2 := Lib.hid hlaw
          clear hlaw HLaw HWays
          go_wp2_with fail
          have hlaw := hlaw2.out
          clear hlaw2 hm
          obtain ⟨p0, p1, p2⟩ := id hP5
          obtain ⟨q0, q1, q2⟩ := id hO5
          have a0 := After.cell p0
          have a1 := After.cell p1
          have a2 := After.cell p2
          have a3 := After.cell q0
          have a4 := After.cell q1
          have a5 := After.cell q2
          have c1 := fun y : After w5 => dbm_Has N2 E2 A2 c2 M2 A' c' x y.w ((ho5.oct hfit.1 hMi).go y.below) ((hx5.below y.below).more y.below.size) hxi hxm
          have c2 := fun y : After w5 => dbm_Has n E A c M A' c' x y.w (h5.go y.below) ((hx5.below y.below).more y.below.size) hxi hxm
          rw [hlaw] at c1
          clear hlaw p0 p1 p2 q0 q1 q2 h5 hx5 ho5 hO5 hP5
          generalize hasO n E M x = hb at *
          rcases hb with _ | _
          all_goals
            simp only [Bool.true_and, Bool.false_and] at c1
            refine wp_region_after (by kernel_rfl) (by kernel_rfl) ?_
            repeat (go_big_quiet_step (first | (go_at_call 27; with_reducible exact after_of (c1 _)) | (go_at_call 27; with_reducible exact after_of (c2 _))))
            refine wpQuiet_nil ?_
            intro w6 hb6
            have hB6 := hB5.trans (hb6.mono hB5.size)
            clear hb6 a0 a1 a2 a3 a4 a5 hB5
            go_wp2_with fail
            go_ret
            exact ⟨rfl, hB6⟩
        · have hlaw2 := Lib.hid hlaw
          clear hlaw HLaw HWays
          have d1b : decide (df < 0) = false := decide_eq_false (by omega)
          clear d1
          go_wp2_with fail
          have hlaw := hlaw2.out
          clear hlaw2 hm
          obtain ⟨p0, p1, p2⟩ := id hP5
          obtain ⟨q0, q1, q2⟩ := id hO5
          have a0 := After.cell p0
          have a1 := After.cell p1
          have a2 := After.cell p2
          have a3 := After.cell q0
          have a4 := After.cell q1
          have a5 := After.cell q2
          have c1 := fun y : After w5 => dbm_Has N2 E2 A2 c2 M2 A' c' x y.w ((ho5.oct hfit.1 hMi).go y.below) ((hx5.below y.below).more y.below.size) hxi hxm
          have c2 := fun y : After w5 => dbm_Has n E A c M A' c' x y.w (h5.go y.below) ((hx5.below y.below).more y.below.size) hxi hxm
          rw [hlaw] at c1
          clear hlaw p0 p1 p2 q0 q1 q2 h5 hx5 ho5 hO5 hP5
          generalize hasO n E M x = hb at *
          rcases hb with _ | _
          all_goals
            simp only [Bool.true_and, Bool.false_and] at c1
            refine wp_region_after (by kernel_rfl) (by kernel_rfl) ?_
            repeat (go_big_quiet_step (first | (go_at_call 27; with_reducible exact after_of (c1 _)) | (go_at_call 27; with_reducible exact after_of (c2 _))))
            refine wpQuiet_nil ?_
            intro w6 hb6
            have hB6 := hB5.trans (hb6.mono hB5.size)
            clear hb6 a0 a1 a2 a3 a4 a5 hB5
            go_wp2_with fail
            go_ret
            exact ⟨rfl, hB6⟩
        · have hlaw2 := Lib.hid hlaw
          clear hlaw HLaw HWays
          have d1b : decide (df < 0) = false := decide_eq_false (by omega)
          clear d1
          have d3b : decide (dv ≤ ab) = true := decide_eq_true d3
          clear d3
          go_wp2_with fail
          have hlaw := hlaw2.out
          clear hlaw2 hm
          obtain ⟨p0, p1, p2⟩ := id hP5
          obtain ⟨q0, q1, q2⟩ := id hO5
          have a0 := After.cell p0
          have a1 := After.cell p1
          have a2 := After.cell p2
          have a3 := After.cell q0
          have a4 := After.cell q1
          have a5 := After.cell q2
          have c1 := fun y : After w5 => dbm_Has N2 E2 A2 c2 M2 A' c' x y.w ((ho5.oct hfit.1 hMi).go y.below) ((hx5.below y.below).more y.below.size) hxi hxm
          have c2 := fun y : After w5 => dbm_Has n E A c M A' c' x y.w (h5.go y.below) ((hx5.below y.below).more y.below.size) hxi hxm
          rw [hlaw] at c1
          clear hlaw p0 p1 p2 q0 q1 q2 h5 hx5 ho5 hO5 hP5
          generalize hasO n E M x = hb at *
          rcases hb with _ | _
          all_goals
            simp only [Bool.true_and, Bool.false_and] at c1
            refine wp_region_after (by kernel_rfl) (by kernel_rfl) ?_
            repeat (go_big_quiet_step (first | (go_at_call 27; with_reducible exact after_of (c1 _)) | (go_at_call 27; with_reducible exact after_of (c2 _))))
            refine wpQuiet_nil ?_
            intro w6 hb6
            have hB6 := hB5.trans (hb6.mono hB5.size)
            clear hb6 a0 a1 a2 a3 a4 a5 hB5
            go_wp2_with fail
            go_ret
            exact ⟨rfl, hB6⟩
        · have hlaw2 := Lib.hid hlaw
          clear hlaw HLaw HWays
          have d1b : decide (df < 0) = false := decide_eq_false (by omega)
          clear d1
          have d3b : decide (dv ≤ ab) = false := decide_eq_false (by omega)
          clear d3
          go_wp2_with fail
          have hlaw := hlaw2.out
          clear hlaw2 hm
          obtain ⟨p0, p1, p2⟩ := id hP5
          obtain ⟨q0, q1, q2⟩ := id hO5
          have a0 := After.cell p0
          have a1 := After.cell p1
          have a2 := After.cell p2
          have a3 := After.cell q0
          have a4 := After.cell q1
          have a5 := After.cell q2
          have c1 := fun y : After w5 => dbm_Has N2 E2 A2 c2 M2 A' c' x y.w ((ho5.oct hfit.1 hMi).go y.below) ((hx5.below y.below).more y.below.size) hxi hxm
          have c2 := fun y : After w5 => dbm_Has n E A c M A' c' x y.w (h5.go y.below) ((hx5.below y.below).more y.below.size) hxi hxm
          rw [hlaw] at c1
          clear hlaw p0 p1 p2 q0 q1 q2 h5 hx5 ho5 hO5 hP5
          generalize hasO n E M x = hb at *
          rcases hb with _ | _
          all_goals
            simp only [Bool.true_and, Bool.false_and] at c1
            refine wp_region_after (by kernel_rfl) (by kernel_rfl) ?_
            repeat (go_big_quiet_step (first | (go_at_call 27; with_reducible exact after_of (c1 _)) | (go_at_call 27; with_reducible exact after_of (c2 _))))
            refine wpQuiet_nil ?_
            intro w6 hb6
            have hB6 := hB5.trans (hb6.mono hB5.size)
            clear hb6 a0 a1 a2 a3 a4 a5 hB5
            go_wp2_with fail
            go_ret
            exact ⟨rfl, hB6⟩
    · have hxb : ((x.length : Int) != N) = true := bne_iff_ne.2 hxl
      clear hxl HL
      go_wp2_with fail
      go_ret
      exact ⟨rfl, hB2.alloc hB2.size _⟩
  · have heb : (e2 != 0) = true := bne_iff_ne.2 he2
    clear he2 HL
    go_wp2_with fail
    go_ret
    exact ⟨rfl, hB2.alloc hB2.size _⟩
end Go.Proofs.Ytgganboepfikiaa
