/- Walks: the known values of layer 12, and the statement DbmChecks. -/
import Derived.Test.YtgganboepfikiaaHau
import Derived.Test.YtgganboepfikiaaOctF
import Derived.Deep.RegionHeld3
namespace Go.Proofs.Ytgganboepfikiaa
open Go.RowKit
set_option linter.unusedVariables false
set_option linter.unusedSimpArgs false
open Gn
theorem Ow.oct {w : World} {base c : Nat} {A : Option Addr} {N : Int} {M : List Int} (h : Ow w base 2 .i64 A c M) (hN : I64 N) (hM : ∀ x ∈ M, I64 x) : OctIn w w.heap.size A c N M :=
  ⟨hN, h.rd, hM, h.cap, h.capMax⟩
set_option maxHeartbeats 2000000 in
theorem known12 (w : World) : Calls Try.prog 24 #[] w fun e w' => e = .returned (.bool true) ∧ Below w.heap.size w w' := by
  have cT := dbm_Top 1 w (by omega)
  go_enter Try.func24, Try.ntmps24
  go_wp2_with fail
  refine cT.mono ?_
  clear cT
  rintro e w1 ⟨g, M, hM0, rfl, ho, hb1⟩
  have hM : M = [0, 9223372036854775807, 9223372036854775807, 0] := by rw [hM0]; decide
  have hMi : ∀ x ∈ M, I64 x := by rw [hM]; decide
  have hP : withP 1 false M 0 1 6 = ((1, false, [0, 6, 9223372036854775807, 0]), 0) := by rw [hM]; decide
  have hMl : (M.length : Int) ≤ 17592186043904 := by rw [hM]; decide
  clear hM hM0
  have hal : ∀ o, Below w1.heap.size w1 (w1.alloc o) := fun o => (Below.refl _ _).alloc (Nat.le_refl _) _
  have cW := fun o => dbm_With 1 false (some ⟨g, 0, none⟩) M.length M 0 1 6 (w1.alloc o) ((ho.alloc o).oct (by unfold I64; omega) hMi) hMl
  rw [hP] at cW
  clear hP hMi
  go_wp2_with fail
  refine (cW _).mono ?_
  clear cW
  rintro e w2 ⟨A2, c2, rfl, ho2, hb2⟩
  have hB2 := hb1.trans ((hal _).trans (hb2.mono (by simp)) |>.mono hb1.size)
  clear ho hb1 hb2 hal
  have hL2 : hasO 1 false [0, 6, 9223372036854775807, 0] [3] = true ∧ hasO 1 false [0, 6, 9223372036854775807, 0] [4] = false := by decide
  have hLi : ∀ x ∈ ([0, 6, 9223372036854775807, 0] : List Int), I64 x := by decide
  have hll : ([0, 6, 9223372036854775807, 0] : List Int).length = 4 := rfl
  dsimp only at ho2 ⊢
  have hlit := fun (X : World) => Ow.lit X X.heap.size 2 .i64 [0, 6, 9223372036854775807, 0] (Nat.le_refl _) (by unfold maxLen; simp)
  obtain ⟨L, hL⟩ : ∃ L, L = ([0, 6, 9223372036854775807, 0] : List Int) := ⟨_, rfl⟩
  rw [← hL] at ho2 hL2 hLi hll hlit ⊢
  have h3 := fun (X : World) => Ow.lit X X.heap.size 2 .i64 [3] (Nat.le_refl _) (by unfold maxLen; simp)
  have h4 := fun (X : World) => Ow.lit X X.heap.size 2 .i64 [4] (Nat.le_refl _) (by unfold maxLen; simp)
  have HL := Lib.hid hL
  clear hL
  rw [hll]
  go_wp2_with fail
  obtain ⟨wa, hwa⟩ : ∃ wa, wa = w2.alloc (.cells #[.int .i64 1, .bool false, .slice A2 4 c2] /-T-/26) := ⟨_, rfl⟩
  obtain ⟨w3, hw3⟩ : ∃ w3, w3 = wa.alloc (.cells #[.int .i64 0, .int .i64 6, .int .i64 9223372036854775807, .int .i64 0] /-T-/2) := ⟨_, rfl⟩
  have hsa : wa.heap.size = w2.heap.size + 1 := by rw [hwa]; simp
  have hOa : OctAt wa w2.heap.size 1 false (.slice A2 4 c2) := by rw [hwa]; exact OctAt.box _ _ _ _ _
  have hBa : Below w2.heap.size w2 wa := by rw [hwa]; exact (Below.refl _ _).alloc (Nat.le_refl _) _
  have hB3 : Below wa.heap.size wa w3 := by rw [hw3]; exact (Below.refl _ _).alloc (Nat.le_refl _) _
  have hl3 : Ow w3 wa.heap.size 2 .i64 (some ⟨wa.heap.size, 0, none⟩) L.length L := by rw [hw3, HL.out]; exact Ow.lit wa wa.heap.size 2 .i64 [0, 6, 9223372036854775807, 0] (Nat.le_refl _) (by unfold maxLen; simp)
  have ho3 := (ho2.below hBa).below hB3
  have hO3 := hOa.below hB3
  have hs3 := hB3.size
  have hBw := hB2.trans ((hBa.trans (hB3.mono hBa.size)).mono hB2.size)
  rw [← hwa, ← hsa, ← hw3]
  clear hwa hw3 hOa hBa hB3 hB2 ho2
  have cL := help_Longs A2 (some ⟨wa.heap.size, 0, none⟩) c2 4 L L w3 ho3.rd hl3.rd (by omega) (by omega)
  rw [decide_eq_true (show L = L from rfl), hll] at cL
  refine cL.mono ?_
  clear cL hl3
  rintro e w4 ⟨rfl, hb4⟩
  have ho4 := ho3.below hb4
  have hO4 := hO3.below hb4
  have hB4 := hBw.trans (hb4.mono hBw.size)
  obtain ⟨p0, p1, p2⟩ := id hO4
  clear hb4 ho3 hO3 hBw
  go_wp2_with fail
  obtain ⟨w5, hw5⟩ : ∃ w5, w5 = w4.alloc (.cells #[.int .i64 3] /-T-/2) := ⟨_, rfl⟩
  have hb5 : Below w4.heap.size w4 w5 := by rw [hw5]; exact (Below.refl _ _).alloc (Nat.le_refl _) _
  have h5 : Ow w5 w4.heap.size 2 .i64 (some ⟨w4.heap.size, 0, none⟩) 1 [3] := by rw [hw5]; exact h3 w4
  have ho5 := ho4.below hb5
  have hO5 := hO4.below hb5
  have hB5 := hB4.trans (hb5.mono hB4.size)
  rw [← hw5]
  clear hw5 hb5 ho4 hO4 hB4 p0 p1 p2
  have cH := dbm_Has 1 false A2 c2 L (some ⟨w4.heap.size, 0, none⟩) 1 [3] w5 (ho5.oct (by unfold I64; omega) hLi) h5.rd (by decide) (by simp)
  rw [hL2.1, hll] at cH
  refine cH.mono ?_
  clear cH h5
  rintro e w6 ⟨rfl, hb6⟩
  have ho6 := ho5.below hb6
  have hO6 := hO5.below hb6
  have hB6 := hB5.trans (hb6.mono hB5.size)
  obtain ⟨p0, p1, p2⟩ := id hO6
  clear hb6 ho5 hO5 hB5
  go_wp2_with fail
  obtain ⟨w7, hw7⟩ : ∃ w7, w7 = w6.alloc (.cells #[.int .i64 4] /-T-/2) := ⟨_, rfl⟩
  have hb7 : Below w6.heap.size w6 w7 := by rw [hw7]; exact (Below.refl _ _).alloc (Nat.le_refl _) _
  have h7 : Ow w7 w6.heap.size 2 .i64 (some ⟨w6.heap.size, 0, none⟩) 1 [4] := by rw [hw7]; exact h4 w6
  have ho7 := ho6.below hb7
  have hB7 := hB6.trans (hb7.mono hB6.size)
  rw [← hw7]
  clear hw7 hb7 ho6 hO6 hB6 p0 p1 p2
  have cH := dbm_Has 1 false A2 c2 L (some ⟨w6.heap.size, 0, none⟩) 1 [4] w7 (ho7.oct (by unfold I64; omega) hLi) h7.rd (by decide) (by simp)
  rw [hL2.2, hll] at cH
  refine cH.mono ?_
  clear cH h7
  rintro e w8 ⟨rfl, hb8⟩
  have hB8 := hB7.trans (hb8.mono hB7.size)
  clear hb8 hB7
  go_wp2_with fail
  go_ret
  exact ⟨rfl, hB8⟩
theorem help_Oct_nil (N : Int) (E : Bool) (w : World) : Calls Try.prog 22 #[.agg #[.int .i64 N, .bool E, .slice none 0 0], .agg #[.int .i64 N, .bool E, .slice none 0 0]] w fun e w' => e = .returned (.bool true) ∧ Below w.heap.size w w' := by
  have cX := help_Oct N N E E none none 0 0 [] [] w Rd.zero Rd.zero (by simp) (by simp)
  rw [decide_eq_true ⟨rfl, rfl, rfl⟩] at cX
  exact cX
theorem below_go {A B C : World} (h : Below A.heap.size A B) (k : Below B.heap.size B C) : Below A.heap.size A C := h.trans (k.mono h.size)
theorem two_octs (w : World) (t : TypeId) (N N' : Int) (E E' : Bool) (v v' : Value) : ∃ W, W = (w.alloc (.cells #[.int .i64 N, .bool E, v] t)).alloc (.cells #[.int .i64 N', .bool E', v'] t) ∧
    OctAt W w.heap.size N E v ∧ OctAt W (w.heap.size + 1) N' E' v' ∧ Below w.heap.size w W ∧ W.heap.size = w.heap.size + 2 := two_boxes w t N N' E E' v v'
set_option maxHeartbeats 4000000 in
theorem law_DbmChecks (Na Nb n : Int) (Ea Eb : Bool) (Aa Ab : Option Addr) (ca cb : Nat) (Ma Mb : List Int) (w : World) (ha : OctIn w w.heap.size Aa ca Na Ma) (hb : OctIn w w.heap.size Ab cb Nb Mb) :
    Calls Try.prog 9 #[.agg #[.int .i64 Na, .bool Ea, .slice Aa Ma.length ca], .agg #[.int .i64 Nb, .bool Eb, .slice Ab Mb.length cb], .int .i64 n] w fun e w' => e = .returned (.bool true) ∧ Below w.heap.size w w' := by
  obtain ⟨W, hW, hOa, hOb, hB, hs⟩ := two_octs w 26 Na Nb Ea Eb (.slice Aa Ma.length ca) (.slice Ab Mb.length cb)
  have haW := ha.go hB
  have hbW := hb.go hB
  have cK := known12 W
  go_enter Try.func9, Try.ntmps9
  go_wp2_with fail
  rw [← hW]
  clear hW ha hb
  refine cK.mono ?_
  clear cK
  rintro e w1 ⟨rfl, hb1⟩
  have ha1 := haW.go hb1
  have hb1' := hbW.go hb1
  have hB1 := hB.trans (hb1.mono (by omega))
  obtain ⟨k0, k1, k2⟩ := hOa.below hb1
  obtain ⟨l0, l1, l2⟩ := hOb.below hb1
  clear hb1 haW hbW hOa hOb hB
  go_wp2_with fail
  have c1 := fun x : After w1 => dbm_Check Aa ca Na Ea Ma x.w (ha1.go x.below)
  have c2 := fun x : After w1 => ref_Check Aa ca Na Ea Ma x.w (ha1.go x.below)
  have c3 := fun x : After w1 => dbm_Equal Na Nb Ea Eb Aa Ab ca cb Ma Mb x.w (ha1.go x.below) (hb1'.go x.below)
  have c4 := fun x : After w1 => ref_Equal Na Nb Ea Eb Aa Ab ca cb Ma Mb x.w (ha1.go x.below) (hb1'.go x.below)
  have a0 := After.cell k0
  have a1 := After.cell k1
  have a2 := After.cell k2
  have a3 := After.cell l0
  have a4 := After.cell l1
  have a5 := After.cell l2
  generalize chk Na Ea Ma = cc at *
  generalize eqO Na Nb Ea Eb Ma Mb = ee at *
  refine wp_region_after (by kernel_rfl) (by kernel_rfl) ?_
  have hcc : (cc != cc) = false := bne_self_eq_false ..
  have hee : (ee != ee) = false := by cases ee <;> rfl
  repeat (go_big_quiet_step (first | (go_at_call 33; with_reducible exact after_of (c1 _)) | (go_at_call 34; with_reducible exact after_of (c2 _)) | (go_at_call 35; with_reducible exact after_of (c3 _)) | (go_at_call 36; with_reducible exact after_of (c4 _))))
  refine wpQuiet_nil ?_
  intro w2 hb2
  have hB2 := hB1.trans (hb2.mono hB1.size)
  clear a0 a1 a2 a3 a4 a5 c1 c2 c3 c4 k0 k1 k2 l0 l1 l2 hb2 hB1 ha1 hb1' hcc hee
  by_cases hn : 0 ≤ n ∧ n ≤ 64
  · obtain ⟨m, rfl⟩ := Int.eq_ofNat_of_zero_le hn.1
    have hm : m ≤ 64 := by omega
    clear hn
    go_wp2_with fail
    refine (dbm_Top m _ hm).mono ?_
    rintro e w3 ⟨g, M, hM, rfl, ho3, hb3⟩
    have HM := Lib.hid hM
    clear hM
    go_wp2_with fail
    obtain ⟨w4, hw4⟩ : ∃ w4, w4 = w3.alloc (.cells #[.int .i64 m, .bool false, .slice (some ⟨g, 0, none⟩) M.length M.length] /-T-/26) := ⟨_, rfl⟩
    have hO4 : OctAt w4 w3.heap.size m false (.slice (some ⟨g, 0, none⟩) M.length M.length) := by rw [hw4]; exact OctAt.box _ _ _ _ _
    have hb4 : Below w3.heap.size w3 w4 := by rw [hw4]; exact (Below.refl _ _).alloc (Nat.le_refl _) _
    have ho4 := ho3.below hb4
    have hB4 := hB2.trans ((hb3.trans (hb4.mono hb3.size)).mono hB2.size)
    rw [← hw4]
    clear hw4 hb3 hb4 ho3 hB2
    refine (dbm_Empty m _ hm).mono ?_
    rintro e w5 ⟨rfl, hb5⟩
    have hO5 := hO4.below hb5
    have ho5 := ho4.below hb5
    have hB5 := hB4.trans (hb5.mono hB4.size)
    clear hO4 ho4 hB4 hb5
    go_wp2_with fail
    obtain ⟨w6, hw6⟩ : ∃ w6, w6 = w5.alloc (.cells #[.int .i64 m, .bool true, .slice none 0 0] /-T-/26) := ⟨_, rfl⟩
    have hE6 : OctAt w6 w5.heap.size m true (.slice none 0 0) := by rw [hw6]; exact OctAt.box _ _ _ _ _
    have hb6 : Below w5.heap.size w5 w6 := by rw [hw6]; exact (Below.refl _ _).alloc (Nat.le_refl _) _
    have hO6 := hO5.below hb6
    have ho6 := ho5.below hb6
    have hB6 := hB5.trans (hb6.mono hB5.size)
    rw [← hw6]
    clear hw6 hb6 hO5 ho5 hB5
    obtain ⟨k0, k1, k2⟩ := hO6
    obtain ⟨l0, l1, l2⟩ := hE6
    have hml : (M.length : Int) ≤ 9223372036854775807 := by have := ho6.cap; have := maxLen_le ho6.capMax; omega
    go_region_held3 (fun X => X.cell? ⟨w3.heap.size, 0, none⟩ = some (.int .i64 m) ∧ X.cell? ⟨w3.heap.size, 1, none⟩ = some (.bool false) ∧ X.cell? ⟨w3.heap.size, 2, none⟩ = some (.slice (some ⟨g, 0, none⟩) M.length M.length) ∧
        X.cell? ⟨w5.heap.size, 0, none⟩ = some (.int .i64 m) ∧ X.cell? ⟨w5.heap.size, 1, none⟩ = some (.bool true) ∧ X.cell? ⟨w5.heap.size, 2, none⟩ = some (.slice none 0 0) ∧ Below w6.heap.size w6 X)
      (first | exact ⟨k0, k1, k2, l0, l1, l2, (Below.refl _ _).drew⟩ | assumption | (go_split_ands; exact ⟨below_cell hbb (by assumption), below_cell hbb (by assumption), below_cell hbb (by assumption), below_cell hbb (by assumption), below_cell hbb (by assumption), below_cell hbb (by assumption), below_go (by assumption) hbb⟩))
      (first | (go_at_call 17; refine (ref_Top m _ hm).mono ?_; rintro e w' ⟨g', M', hM', rfl, hoT, hbb⟩; obtain rfl : M = M' := HM.out.trans hM'.symm; clear hM') | (go_at_call 22; have hbS := (by assumption : _ ∧ _ ∧ _ ∧ _ ∧ _ ∧ _ ∧ Below w6.heap.size w6 _).2.2.2.2.2.2; have cX := help_Oct m m false false (some ⟨g, 0, none⟩) (some ⟨g', 0, none⟩) M.length M.length M M _ (ho6.below hbS).rd hoT.rd hml hml; rw [decide_eq_true ⟨rfl, rfl, rfl⟩] at cX; with_reducible refine cX.mono ?_; rintro e w'' ⟨rfl, hbb⟩) | (go_at_call 39; refine (ref_Empty m _).mono ?_; rintro e w' ⟨rfl, hbb⟩) | (go_at_call 22; with_reducible refine (help_Oct_nil m true _).mono ?_; rintro e w'' ⟨rfl, hbb⟩))
    have hBS := (by assumption : _ ∧ _ ∧ _ ∧ _ ∧ _ ∧ _ ∧ Below w6.heap.size w6 _).2.2.2.2.2.2
    have hBf := hB6.trans (hBS.mono hB6.size)
    go_wp2_with fail
    go_ret
    exact ⟨rfl, hBf⟩
  · have hbad : n < 0 ∨ 64 < n := by omega
    rcases hbad with hbad | hbad
    all_goals
      go_wp2_with fail
      refine (dbm_Top_bad n _ hn).mono ?_
      rintro e w3 ⟨rfl, hb3⟩
      go_wp2_with fail
      obtain ⟨w4, hw4⟩ : ∃ w4, w4 = w3.alloc (.cells #[.int .i64 0, .bool false, .slice none 0 0] /-T-/26) := ⟨_, rfl⟩
      have hO4 : OctAt w4 w3.heap.size 0 false (.slice none 0 0) := by rw [hw4]; exact OctAt.box _ _ _ _ _
      have hb4 : Below w3.heap.size w3 w4 := by rw [hw4]; exact (Below.refl _ _).alloc (Nat.le_refl _) _
      have hB4 := hB2.trans ((hb3.trans (hb4.mono hb3.size)).mono hB2.size)
      rw [← hw4]
      clear hw4 hb3 hb4
      refine (dbm_Empty_bad n _ hn).mono ?_
      rintro e w5 ⟨rfl, hb5⟩
      have hO5 := hO4.below hb5
      have hB5 := hB4.trans (hb5.mono hB4.size)
      clear hO4 hB4 hb5
      obtain ⟨k0, k1, k2⟩ := id hO5
      have hl5 := hO5.lt
      go_wp2_with fail
      obtain ⟨w6, hw6⟩ : ∃ w6, w6 = w5.alloc (.cells #[.int .i64 0, .bool false, .slice none 0 0] /-T-/26) := ⟨_, rfl⟩
      have hE6 : OctAt w6 w5.heap.size 0 false (.slice none 0 0) := by rw [hw6]; exact OctAt.box _ _ _ _ _
      have hb6 : Below w5.heap.size w5 w6 := by rw [hw6]; exact (Below.refl _ _).alloc (Nat.le_refl _) _
      have hB6 := hB5.trans (hb6.mono hB5.size)
      rw [← hw6]
      clear hw6 hb6 hO5 hB5 k0 k1 k2 hl5
      refine (help_Oct_nil 0 false _).mono ?_
      rintro e w7 ⟨rfl, hb7⟩
      obtain ⟨m0, m1, m2⟩ := hE6.below hb7
      have hB7 := hB6.trans (hb7.mono hB6.size)
      clear hb7 hB6 hE6
      go_wp2_with fail
      refine (help_Oct_nil 0 false _).mono ?_
      rintro e w8 ⟨rfl, hb8⟩
      have hB8 := hB7.trans (hb8.mono hB7.size)
      clear hb8 hB7
      go_wp2_with fail
      go_ret
      exact ⟨rfl, hB8⟩
end Go.Proofs.Ytgganboepfikiaa
