/- What gnomonlaw19.known says; the walk of CertEncodes. -/
import Derived.Test.YtghpiofjejhegaaCek
import Derived.Test.YtghpiofjejhegaaCee
namespace Go.Proofs.Ytghpiofjejhegaa
open Go.RowKit
set_option linter.unusedVariables false
set_option linter.unusedSimpArgs false
open Gn
namespace Gn
theorem octB_zero : octB 0 false [] = [1, 0] := by
  rw [octB_false]
  show [1] ++ put 0 ++ putAll [] = [1, 0]
  rw [put_small (by omega)]; rfl
theorem encP_known : ∃ bs : List Int, encP 0 0 [⟨0, false, []⟩] = (bs, 0) ∧ bs.length = 16 := by
  have hc : chkC ((0 : Nat) : Int) [⟨0, false, []⟩] = 0 := by decide
  have e1 : bytesTo 0 0 [⟨0, false, []⟩] 1 = [103, 110, 109, 49] ++ digTo 0 8 ++ (put 0 ++ put 1) ++ [1, 0] := by
    rw [bytesTo_succ]
    show bytesTo 0 0 [⟨0, false, []⟩] 0 ++ octB 0 false [] = _
    rw [octB_zero]
    unfold bytesTo octsTo headB
    rw [List.range_zero, List.flatMap_nil, List.append_nil, putAll_two]
    rfl
  have hl : (bytesTo 0 0 [⟨0, false, []⟩] 1).length = 16 := by
    rw [e1, put_small (by omega), put_small (by omega)]
    simp [digTo_len]
  exact ⟨_, encP_ok (D := 0) hc (by show ¬ 4194304 < (bytesTo 0 0 [⟨0, false, []⟩] 1).length; omega), hl⟩
theorem pidx_known : pidx (pairs 2) (plA 0 2) (plB 0 2) = 1 := by decide
theorem octB_bts (n : Nat) (E : Bool) (M : List Int) : Bts (octB n E M) := by
  unfold octB
  split
  · intro x hx; simp at hx; omega
  · intro x hx
    simp only [List.mem_append, List.mem_cons, List.not_mem_nil, or_false] at hx
    rcases hx with (rfl | hx) | hx
    · omega
    · exact put_bts _ x hx
    · exact putAll_bts _ x hx
theorem encP_bts (D N : Int) (os : List OC) : Bts (encP D N os).1 := by
  unfold encP
  split
  · intro x hx; cases hx
  · split
    · intro x hx; cases hx
    · intro x hx
      unfold bytesTo headB octsTo at hx
      simp only [List.mem_append, List.mem_flatMap, List.mem_cons, List.not_mem_nil, or_false] at hx
      rcases hx with ((hx | hx) | hx) | ⟨i, _, hx⟩
      · omega
      · unfold digTo digAt at hx
        simp only [List.mem_map] at hx
        obtain ⟨i, _, rfl⟩ := hx
        omega
      · exact putAll_bts _ x hx
      · exact octB_bts _ _ _ x hx
end Gn
set_option maxRecDepth 100000 in
set_option maxHeartbeats 1000000 in
theorem known19 (w : World) : Calls Try.prog 20 #[] w fun e w' => e = .returned (.bool true) ∧ Below w.heap.size w w' := by
  have hb0 : Below w.heap.size w (w.alloc (.cells #[.int .i64 0, .bool false, .slice none 0 0] 55)) := (Below.refl _ _).alloc (Nat.le_refl _) _
  have hO : OctsIn (w.alloc (.cells #[.int .i64 0, .bool false, .slice none 0 0] 55)) (some ⟨w.heap.size, 0, none⟩) [⟨0, false, []⟩] := fun _ => ⟨w.heap.size, 0, rfl, by simp, fun i hi => by
    obtain rfl : i = 0 := by simpa using hi
    exact ⟨none, 0, by simp [World.cell?_alloc_new]; rfl, by simp [World.cell?_alloc_new]; rfl, by simp [World.cell?_alloc_new]; rfl, ⟨⟨by decide, by decide⟩, Rd.zero, (by intro x hx; cases hx), Nat.le_refl _, (by simp)⟩⟩⟩
  obtain ⟨W, hW⟩ : ∃ W, W = w.alloc (.cells #[.int .i64 0, .bool false, .slice none 0 0] 55) := ⟨_, rfl⟩
  rw [← hW] at hO hb0
  have cE : Calls Try.prog 22 #[.agg #[.int .u64 0, .int .i64 0, .slice (some ⟨w.heap.size, 0, none⟩) 1 1]] W (TellsEnc W (encP 0 0 [⟨0, false, []⟩])) := cert_Encode 0 0 (some ⟨w.heap.size, 0, none⟩) 1 [⟨0, false, []⟩] W hO (by decide) ⟨by decide, by decide⟩ (by simp)
  have cN : ∀ W, Calls Try.prog 27 #[.int .i64 2, .int .i64 0, .int .i64 2] W (TellsNum W 1 0) := fun W => by
    have := cert_Number_ok 2 0 2 W (by omega) (by omega) (by omega) (by omega)
    rw [pidx_known] at this
    exact this
  have cC : ∀ W, Calls Try.prog 26 #[.int .i64 2] W fun e w' => e = .returned (.int .i64 8) ∧ W = w' := fun W => cert_Cells 2 W
  obtain ⟨bs, hbs, hl⟩ := encP_known
  rw [hbs] at cE
  clear hO hbs
  have HL := Lib.hid hl
  have HB0 := Lib.hid hb0
  clear hl hb0
  go_enter Try.func20, Try.ntmps20
  go_wp2_with fail
  rw [← hW]
  clear hW
  (with_reducible refine cE.mono ?_)
  clear cE
  rintro e w1 ⟨A, c, rfl, _, hb1⟩
  dsimp only
  rw [HL.out]
  have HB1 := Lib.hid (HB0.out.trans (hb1.mono HB0.out.size))
  clear hb1
  go_wp2_with fail
  (with_reducible refine (cN _).mono ?_)
  clear cN
  rintro e w2 ⟨rfl, hb2⟩
  have HB2 := Lib.hid (HB1.out.trans (hb2.mono HB1.out.size))
  clear hb2
  go_wp2_with fail
  (with_reducible refine (cC _).mono ?_)
  clear cC
  rintro e w3 ⟨rfl, rfl⟩
  go_wp2_with fail
  go_ret
  exact ⟨rfl, HB2.out⟩
set_option maxRecDepth 100000 in
set_option maxHeartbeats 1000000 in
theorem law_CertEncodes (D N : Int) (A : Option Addr) (c : Nat) (os : List OC) (w : World) (h : OctsIn w A os) (hD : 0 ≤ D ∧ D ≤ 18446744073709551615) (hN : I64 N) (hc : os.length ≤ c) (hcm : c ≤ maxLen) (hz : ∀ i, i < os.length → ((ocAt os i).m.length : Int) ≤ 17592186043904) :
    Calls Try.prog 4 #[.agg #[.int .u64 D, .int .i64 N, .slice A os.length c]] w fun e w' => e = .returned (.bool true) ∧ Below w.heap.size w w' := by
  obtain ⟨W, hW, h1, hB, hs⟩ := cert_box w 40 D N (.slice A os.length c)
  have h2 := h.go hB
  have hlm : (os.length : Int) ≤ 9223372036854775807 := by unfold maxLen at hcm; omega
  have HB := Lib.hid hB
  obtain ⟨k0, k1, k2⟩ := h1
  clear hB h hs
  go_enter Try.func4, Try.ntmps4
  go_wp2_with fail
  rw [← hW]
  clear hW
  (with_reducible refine (known19 _).mono ?_)
  rintro e w1 ⟨rfl, hb1⟩
  have h3 := h2.go hb1
  have HB1 := Lib.hid (HB.out.trans (hb1.mono HB.out.size))
  have m0 := below_cell hb1 k0
  have m1 := below_cell hb1 k1
  have m2 := below_cell hb1 k2
  clear k0 k1 k2 h2 hb1
  have cL := law_light D N A c os w1 h3 hc hcm hz
  go_wp2_with fail
  (with_reducible refine cL.mono ?_)
  clear cL
  rintro e w2 ⟨b, rfl, hb2⟩
  have h4 := h3.go hb2
  have HB2 := Lib.hid (HB1.out.trans (hb2.mono HB1.out.size))
  have n0 := below_cell hb2 m0
  have n1 := below_cell hb2 m1
  have n2 := below_cell hb2 m2
  clear m0 m1 m2 h3 hb2
  rcases b with _ | _
  · go_wp2_with fail
    go_ret
    exact ⟨rfl, HB2.out⟩
  · have cE := cert_Encode D N A c os w2 h4 hD hN hlm
    go_wp2_with fail
    (with_reducible refine cE.mono ?_)
    clear cE
    rintro e w3 ⟨A3, c3, rfl, ho3, hb3⟩
    have h5 := h4.go hb3
    have HB3 := Lib.hid (HB2.out.trans (hb3.mono HB2.out.size))
    have m0 := below_cell hb3 n0
    have m1 := below_cell hb3 n1
    have m2 := below_cell hb3 n2
    clear n0 n1 n2 h4 hb3
    have cR := ref_Encode D N A c os w3 h5 hD hN hlm
    have hbt := encP_bts D N os
    have HCH := Lib.hid (show True from trivial)
    go_wp2_with fail
    (with_reducible refine cR.mono ?_)
    clear cR
    rintro e w4 ⟨A4, c4, rfl, ho4, hb4⟩
    have h6 := h5.go hb4
    have HB4 := Lib.hid (HB3.out.trans (hb4.mono HB3.out.size))
    have n0 := below_cell hb4 m0
    have n1 := below_cell hb4 m1
    have n2 := below_cell hb4 m2
    have hr3 := (ho3.below hb4).rd
    have hr4 := ho4.rd
    clear m0 m1 m2 h5 hb4 ho3 ho4
    generalize encP D N os = P at *
    obtain ⟨bs, x⟩ := P
    dsimp only at hbt hr3 hr4 ⊢
    have cB := fun y : After w4 => help_Bytes A3 A4 c3 c4 bs bs y.w _ _ hbt hbt (hr3.below y.below) (hr4.below y.below)
    rw [show decide (bs = bs) = true by simp] at cB
    have cK := fun y : After w4 => cert_Check D N A c os y.w (h6.go y.below) hN hlm
    have cKr := fun y : After w4 => ref_CertCheck D N A c os y.w (h6.go y.below) hN hlm
    generalize chkC N os = cc at *
    have a0 := After.cell n0
    have a1 := After.cell n1
    have a2 := After.cell n2
    have q1 : (x == x) = true := by simp
    have q2 : (cc == cc) = true := by simp
    clear hbt hr3 hr4 h6 n0 n1 n2
    go_wp2_with fail
    refine wp_region_after (by kernel_rfl) (by kernel_rfl) ?_
    repeat (go_big_quiet_step (first | (go_at_call 19; with_reducible exact after_same (cB _)) | (go_at_call 24; with_reducible exact after_of (cK _)) | (go_at_call 25; with_reducible exact after_of (cKr _))))
    refine wpQuiet_nil ?_
    intro w5 hb5
    have HB5 := Lib.hid (HB4.out.trans (hb5.mono HB4.out.size))
    clear hb5 a0 a1 a2 cB cK cKr
    go_wp2_with fail
    go_ret
    exact ⟨rfl, HB5.out⟩
end Go.Proofs.Ytghpiofjejhegaa
