/- The walks of span's Operand and gnomonlaw15's known; the law SpanRanges. -/
import Derived.Test.YtkogplnleiapfaaSpq
import Derived.Test.YtkogplnleiapfaaKno
namespace Go.Proofs.Ytkogplnleiapfaa
open Go.RowKit
set_option linter.unusedVariables false
set_option linter.unusedSimpArgs false
namespace Gn
def opP (N : Int) (E : Bool) (M : List Int) (v x : Int) : Ans :=
  if 0 ≤ v then ansP half N E M [v] (2 * v).toNat (2 * v + 1).toNat else if askE N E M [] ≠ 0 then ⟨Rg.none, false, askE N E M []⟩ else if (clo N E M).2.1 = true then ⟨Rg.none, false, 0⟩ else ⟨⟨x, x, true, true⟩, true, 0⟩
def k7M : List Int := [0, 7, 9223372036854775807, 0]
theorem k7_bound : boundM 2 (topM 2) 0 1 7 = k7M := by decide +kernel
theorem k7_i : ∀ v ∈ k7M, I64 v := by decide +kernel
theorem k7_l : k7M.length = 4 := rfl
def k7C : List Int := [0, 6, 9223372036854775807, 0]
theorem k7_close : closeP 1 false k7M = (((1, false, k7C), false), 0) := by decide +kernel
theorem k7_chk : chk 1 false k7M = 0 := by decide +kernel
theorem k7_a : half (cl 2 k7C 0 1) = 3 := by decide +kernel
theorem k7_b : half (cl 2 k7C 1 0) = 9223372036854775807 := by decide +kernel
theorem k7_ans : ansP half 1 false k7M [0] (2 * (0 : Int)).toNat (2 * (0 : Int) + 1).toNat = ⟨⟨0, 3, false, true⟩, true, 0⟩ := by
  have h1 : askE 1 false k7M [0] = 0 := askE_in k7_chk (by decide)
  have h2 : clo 1 false k7M = (1, false, k7C) := by unfold clo; rw [k7_close]
  unfold ansP
  rw [if_neg (by rw [h1]; omega), h2, if_neg (by simp)]
  have e1 : (2 * (0 : Int)).toNat = 0 := rfl
  have e2 : (2 * (0 : Int) + 1).toNat = 1 := rfl
  have e3 : ac 0 = 1 := rfl
  have e4 : ac 1 = 0 := rfl
  have e5 : 2 * (1 : Int).toNat = 2 := rfl
  rw [e1, e2, e3, e4, e5, k7_a, k7_b]
  rfl
end Gn
open Gn
set_option maxRecDepth 100000 in
set_option maxHeartbeats 4000000 in
theorem span_Operand (o : OV) (v y : Int) (w : World) (h : OctIn w w.heap.size o.A o.c o.N o.M) (hM : (o.M.length : Int) ≤ 17592186043904) (a : Ans) (ha : opP o.N o.E o.M v y = a) :
    Calls Try.prog 43 #[.agg #[.int .i64 o.N, .bool o.E, .slice o.A o.M.length o.c], .agg #[.int .i64 v, .int .i64 y]] w fun e w' => e = .returned (.tuple #[.agg #[.int .i64 a.r.lo, .int .i64 a.r.hi, .bool a.r.hl, .bool a.r.hh], .bool a.ok, .int .i64 a.e]) ∧ Below w.heap.size w w' := by
  obtain ⟨W, hW, h1, o0, o1, hL, hs, hsz⟩ := oct_op_rg w 24 57 50 o.N o.E (.slice o.A o.M.length o.c) v y
  have hoW := h.go hL
  have HSz : Hid (w.heap.size ≤ w.heap.size + 1 + 1) := Lib.hid (by omega)
  by_cases h0 : 0 ≤ v
  · unfold opP at ha
    rw [if_pos h0] at ha
    have cV := span_Var o v W hoW hM a ha
    have q : decide (v ≥ 0) = true := decide_eq_true h0
    obtain ⟨k0, k1, k2⟩ := id h1
    obtain ⟨r0, r1, r2, r3, rf⟩ := id hs
    clear ha hoW h hM h1
    go_enter Try.func43, Try.ntmps43
    rw [hW] at k0 k1 k2 o0 o1 r0 r1 r2 r3 rf
    go_wp2_with fail
    rw [← hW]
    clear hW k0 k1 k2 r0 r1 r2 r3 rf o0 o1
    with_reducible refine cV.mono ?_
    clear cV
    rintro e w3 ⟨rfl, hb⟩
    replace hs := hs.go hb
    replace hL := hL.trans (hb.mono hL.size)
    clear hb
    obtain ⟨r0, r1, r2, r3, rf⟩ := id hs
    go_wp2_with fail
    refine bodyPost_ret (v := .tuple #[.agg #[.int .i64 a.r.lo, .int .i64 a.r.hi, .bool a.r.hl, .bool a.r.hh], .bool a.ok, .int .i64 a.e]) (by simp [results, Try.results43, go_sem, r0, r1, r2, r3]) rfl ⟨rfl, ?_⟩
    exact below_put4' hL HSz.out _ _ _ _
  · unfold opP at ha
    rw [if_neg h0] at ha
    obtain ⟨x, hX⟩ : ∃ x, askE o.N o.E o.M [] = x := ⟨_, rfl⟩
    have cK := span_asked o none 0 [] W hoW hM Rd.zero (by simp) x hX
    simp only [List.length_nil] at cK
    have HX := Lib.hid hX
    have HA := Lib.hid ha
    obtain ⟨k0, k1, k2⟩ := id h1
    obtain ⟨r0, r1, r2, r3, rf⟩ := id hs
    have q : v < 0 := by omega
    clear ha hX hoW h hM h1 h0
    go_enter Try.func43, Try.ntmps43
    rw [hW] at k0 k1 k2 o0 o1 r0 r1 r2 r3 rf
    go_wp2_with fail
    rw [← hW] at o0 o1 ⊢
    clear hW k0 k1 k2 r0 r1 r2 r3 rf
    with_reducible refine cK.mono ?_
    clear cK
    rintro e w3 ⟨c, rfl, hT⟩
    have HT := Lib.hid hT.eq
    replace hs := hs.go hT.below
    replace o0 := below_cell hT.below o0
    replace o1 := below_cell hT.below o1
    replace hL := hL.trans (hT.below.mono hL.size)
    have hcI := hT.inn
    clear hT
    obtain ⟨w4, hw4⟩ : ∃ X, X = w3.alloc (.cells #[.int .i64 c.N, .bool c.E, .slice c.A c.M.length c.c] 24) := ⟨_, rfl⟩
    have hcV : Oc w4 w3.heap.size c := by rw [hw4]; exact Oc.new c hcI _
    have hb4 : Below w3.heap.size w3 w4 := by rw [hw4]; exact (Below.refl _ _).alloc (Nat.le_refl _) _
    replace hs := hs.go hb4
    replace o0 := below_cell hb4 o0
    replace o1 := below_cell hb4 o1
    replace hL := hL.trans (hb4.mono hL.size)
    clear hb4 hcI
    obtain ⟨k0, k1, k2⟩ := id hcV.at'
    obtain ⟨r0, r1, r2, r3, rf⟩ := id hs
    by_cases hx : x = 0
    · have hd : (x != 0) = false := bne_eq_false_iff_eq.2 hx
      have HF := Lib.hid (show a = (if c.E = true then ⟨Rg.none, false, 0⟩ else ⟨⟨y, y, true, true⟩, true, 0⟩) by
        have e := HT.out
        unfold askO at e
        rw [HX.out, if_pos hx] at e
        rw [← HA.out, if_neg (by rw [HX.out]; omega), ← e])
      obtain ⟨cN, cE, cA, cc, cM⟩ := c
      dsimp only at *
      cases cE
      · have HF2 := Lib.hid (show a = ⟨⟨y, y, true, true⟩, true, 0⟩ by rw [HF.out]; rfl)
        clear HF HA HX hx HT
        rw [hw4] at k0 k1 k2 r0 r1 r2 r3 rf o0 o1
        go_wp2_with fail
        rw [← hw4] at o0 o1 ⊢
        clear hw4 k0 k1 k2 r0 r1 r2 r3 rf
        have a0 := After.cell o0
        have a1 := After.cell o1
        have cT := fun X => end_to y y true true X ⟨y, y, true, true⟩ rfl
        dsimp only at cT
        refine wp_region_mix [(7, 3)] (by kernel_rfl) (by kernel_rfl) ?_
        simp only [wpMix, List.take_succ_cons, List.take_zero, List.drop_succ_cons, List.drop_zero]
        repeat (go_big_quiet_step (first | (go_at_call 85; with_reducible exact after_of (span_at _ _)) | (go_at_call 86; with_reducible exact after_of (cT _))))
        refine wpQuiet_nil ?_
        intro w5 hb
        replace hs := hs.go hb
        replace hL := hL.trans (hb.mono hL.size)
        clear hb a0 a1 cT
        have hP := Lib.hid (hs.put y y true true)
        have hL2 := Lib.hid (below_put4' (b := w.heap.size + 1 + 1) hL HSz.out (.int .i64 y) (.int .i64 y) (.bool true) (.bool true))
        obtain ⟨r0, r1, r2, r3, rf⟩ := id hs
        clear hs hL
        go_wp2_with fail
        refine mixQ_normal (wpQuiet_nil ?_)
        intro w6 hb
        have hP4 := hP.out.go hb
        have hL4 := hL2.out.trans (hb.mono hL2.out.size)
        clear r0 r1 r2 r3 rf hb
        obtain ⟨r0, r1, r2, r3, rf⟩ := id hP4
        go_wp2_with fail
        refine bodyPost_ret (v := .tuple #[.agg #[.int .i64 y, .int .i64 y, .bool true, .bool true], .bool true, .int .i64 0]) (by simp [results, Try.results43, go_sem, r0, r1, r2, r3]) rfl ⟨by rw [HF2.out], ?_⟩
        exact hL4
      · have HF2 := Lib.hid (show a = ⟨Rg.none, false, x⟩ by rw [HF.out, hx]; rfl)
        clear HF HA HX hx HT
        rw [hw4] at k0 k1 k2 r0 r1 r2 r3 rf o0 o1
        go_wp2_with fail
        rw [← hw4] at r0 r1 r2 r3 ⊢
        refine bodyPost_ret (v := .tuple #[.agg #[.int .i64 0, .int .i64 0, .bool false, .bool false], .bool false, .int .i64 x]) (by simp [results, Try.results43, go_sem, r0, r1, r2, r3]) rfl ⟨by rw [HF2.out]; rfl, ?_⟩
        exact below_put4' hL HSz.out _ _ _ _
    · have hd : (x != 0) = true := bne_iff_ne.2 hx
      have HF2 := Lib.hid (show a = ⟨Rg.none, false, x⟩ by rw [← HA.out, if_pos (by rw [HX.out]; exact hx), HX.out])
      clear HA HX hx HT
      rw [hw4] at k0 k1 k2 r0 r1 r2 r3 rf o0 o1
      go_wp2_with fail
      rw [← hw4] at r0 r1 r2 r3 ⊢
      refine bodyPost_ret (v := .tuple #[.agg #[.int .i64 0, .int .i64 0, .bool false, .bool false], .bool false, .int .i64 x]) (by simp [results, Try.results43, go_sem, r0, r1, r2, r3]) rfl ⟨by rw [HF2.out]; rfl, ?_⟩
      exact below_put4' hL HSz.out _ _ _ _
set_option maxRecDepth 100000 in
set_option maxHeartbeats 4000000 in
theorem known15 (w : World) : Calls Try.prog 30 #[] w fun e w' => e = .returned (.bool true) ∧ Below w.heap.size w w' := by
  have E0 : ((0 : Nat) : Int) = 0 := rfl
  have E1 : ((1 : Nat) : Int) = 1 := rfl
  have cT := fun W => ref_Top 1 W (by omega)
  rw [E1] at cT
  go_enter Try.func30, Try.ntmps30
  go_wp2_with fail
  with_reducible refine (cT _).mono ?_
  rintro e w1 ⟨g, M, hM0, rfl, ho, hb1⟩
  have hl : M.length = 2 * 1 * (2 * 1) := by rw [hM0]; exact topM_len _
  have c1 := ref_BoundB 1 g M.length M 0 1 7 w1 w.heap.size (by omega) hl ho (by omega) (by omega) (by omega) hb1.size
  have hK : boundM (2 * 1) M 0 1 7 = k7M := by rw [hM0]; exact k7_bound
  have hl4 : M.length = 4 := hl
  rw [E0, E1, hK, hl4] at c1
  rw [hl4]
  clear hM0 hl ho hK hl4
  go_wp2_with fail
  with_reducible refine c1.mono ?_
  clear c1
  rintro e w2 ⟨rfl, ho2, hb2⟩
  have hB2 := hb1.trans hb2
  clear hb1 hb2
  obtain ⟨w3, hw3⟩ : ∃ w3, w3 = w2.alloc (.cells #[.int .i64 1, .bool false, .slice (some ⟨g, 0, none⟩) 4 4] /-T-/24) := ⟨_, rfl⟩
  have hb3 : Below w2.heap.size w2 w3 := by rw [hw3]; exact (Below.refl _ _).alloc (Nat.le_refl _) _
  have ho3 := (ho2.below hb3).oct (N := 1) (by unfold I64; omega) k7_i
  have hB3 := hB2.trans (hb3.mono hB2.size)
  have cV := span_Var ⟨1, false, some ⟨g, 0, none⟩, 4, k7M⟩ 0 w3 ho3 (by rw [k7_l]; omega) _ k7_ans
  dsimp only at cV
  rw [k7_l] at cV
  have cM := fun X => span_Mul ⟨-2, 3, true, true⟩ ⟨4, 5, true, true⟩ X
  rw [show mulR ⟨-2, 3, true, true⟩ ⟨4, 5, true, true⟩ = ⟨-10, 15, true, true⟩ by rfl] at cM
  dsimp only at cM
  go_wp2_with fail
  rw [← hw3]
  clear hw3 hb3 ho2 hB2
  with_reducible refine cV.mono ?_
  clear cV
  rintro e w4 ⟨rfl, hb4⟩
  have hB4 := hB3.trans (hb4.mono hB3.size)
  obtain ⟨w5, hw5⟩ : ∃ x, x = w4.alloc (.cells #[.int .i64 0, .int .i64 3, .bool false, .bool true] 50) := ⟨_, rfl⟩
  have hr := RgBox.new w4 50 0 3 false true
  obtain ⟨r0, r1, r2, r3, rf⟩ := id hr
  have hB5 : Below w.heap.size w w5 := by rw [hw5]; exact hB4.alloc hB4.size _
  clear hb4 hB3 ho3 hB4
  go_wp2_with fail
  rw [← hw5]
  with_reducible refine (cM _).mono ?_
  clear cM
  rintro e w6 ⟨rfl, hb6⟩
  have hB6 := hB5.trans (hb6.mono hB5.size)
  clear hb6
  go_wp2_with fail
  go_ret
  exact ⟨rfl, hB6⟩
set_option maxRecDepth 100000 in
set_option maxHeartbeats 4000000 in
theorem law_SpanRanges (l0 u0 : Int) (p0 q0 : Bool) (l1 u1 : Int) (p1 q1 : Bool) (x : Int) (w : World) (wl0 : I64 l0) (wu0 : I64 u0) (wl1 : I64 l1) (wu1 : I64 u1) :
    Calls Try.prog 10 #[.agg #[.int .i64 l0, .int .i64 u0, .bool p0, .bool q0], .agg #[.int .i64 l1, .int .i64 u1, .bool p1, .bool q1], .int .i64 x] w fun e w' => e = .returned (.bool true) ∧ Below w.heap.size w w' := by
  obtain ⟨W, hW, hA, hB, hL⟩ := two_rg w 50 l0 u0 p0 q0 l1 u1 p1 q1
  have m1 := fun X => span_Mul ⟨l0, u0, p0, q0⟩ ⟨l1, u1, p1, q1⟩ X
  have m2 := fun X => ref15_Mul ⟨l0, u0, p0, q0⟩ ⟨l1, u1, p1, q1⟩ X
  have d1 := fun X => span_Div ⟨l0, u0, p0, q0⟩ ⟨l1, u1, p1, q1⟩ X wl0 wu0
  have d2 := fun X => ref15_Div ⟨l0, u0, p0, q0⟩ ⟨l1, u1, p1, q1⟩ X wl0 wu0 wl1
  have r1 := fun X => span_Rem ⟨l0, u0, p0, q0⟩ ⟨l1, u1, p1, q1⟩ X wl1 wu0
  have r2 := fun X => ref15_Rem ⟨l0, u0, p0, q0⟩ ⟨l1, u1, p1, q1⟩ X wl1 wu0
  have h1 := fun X => span_Has l0 u0 p0 q0 x X
  have h2 := fun X => ref15_Has l0 u0 p0 q0 x X
  generalize mulR ⟨l0, u0, p0, q0⟩ ⟨l1, u1, p1, q1⟩ = M at *
  generalize divR ⟨l0, u0, p0, q0⟩ ⟨l1, u1, p1, q1⟩ = D at *
  generalize remR ⟨l0, u0, p0, q0⟩ ⟨l1, u1, p1, q1⟩ = R at *
  generalize hasR ⟨l0, u0, p0, q0⟩ x = b at *
  dsimp only at *
  obtain ⟨M1, M2, M3, M4⟩ := M
  obtain ⟨D1, D2, D3, D4⟩ := D
  obtain ⟨R1, R2, R3, R4⟩ := R
  dsimp only at *
  obtain ⟨k0, k1, k2, k3, kf⟩ := hA
  obtain ⟨j0, j1, j2, j3, jf⟩ := hB
  go_enter Try.func10, Try.ntmps10
  rw [hW] at k0 k1 k2 k3 j0 j1 j2 j3
  go_wp2_with fail
  rw [← hW] at k0 k1 k2 k3 j0 j1 j2 j3 ⊢
  have a0 := After.cell k0
  have a1 := After.cell k1
  have a2 := After.cell k2
  have a3 := After.cell k3
  have b0 := After.cell j0
  have b1 := After.cell j1
  have b2 := After.cell j2
  have b3 := After.cell j3
  clear hW k0 k1 k2 k3 j0 j1 j2 j3
  refine wp_region_after (by kernel_rfl) (by kernel_rfl) ?_
  repeat (go_big_quiet_step (first | (go_at_call 30; with_reducible exact after_of (known15 _)) | (go_at_call 47; with_reducible exact after_of (m1 _)) | (go_at_call 48; with_reducible exact after_of (m2 _)) | (go_at_call 49; with_reducible exact after_of (d1 _)) | (go_at_call 50; with_reducible exact after_of (d2 _)) | (go_at_call 51; with_reducible exact after_of (r1 _)) | (go_at_call 52; with_reducible exact after_of (r2 _)) | (go_at_call 53; with_reducible exact after_of (h1 _)) | (go_at_call 54; with_reducible exact after_of (h2 _))))
  refine wpQuiet_nil ?_
  intro w2 hb2
  have hend := Lib.hid (hL.trans (hb2.mono hL.size))
  go_wp2_with fail
  go_ret
  exact ⟨rfl, hend.out⟩
end Go.Proofs.Ytkogplnleiapfaa
