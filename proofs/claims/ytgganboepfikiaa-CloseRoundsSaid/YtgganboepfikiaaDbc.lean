/- Walks: an octagon written over, and the statement DbmCells. -/
import Derived.Test.YtgganboepfikiaaDbk
namespace Go.Proofs.Ytgganboepfikiaa
open Go.RowKit
set_option linter.unusedVariables false
set_option linter.unusedSimpArgs false
open Gn
set_option maxHeartbeats 1000000 in
theorem help_SpoilOct (N : Int) (E : Bool) (A : Option Addr) (c : Nat) (M : List Int) (w : World) (base : Nat) (ho : Ow w base 2 .i64 A c M) (hb : base ≤ w.heap.size) (hm : (M.length : Int) ≤ 9223372036854775807) :
    Calls Try.prog 32 #[.agg #[.int .i64 N, .bool E, .slice A M.length c]] w fun e w' => e = .returned (.tuple #[]) ∧ Below base w w' := by
  obtain ⟨W, hW, hO, hB, hs⟩ := one_box w 26 N E (.slice A M.length c)
  have hoW := ho.below hB
  have hBb : Below base w W := hB.mono hb
  have hlen : M.length = M.length := rfl
  go_enter Try.func32, Try.ntmps32
  go_wp2_with fail
  rw [← hW]
  clear hW hB
  go_loopw [2] (fun s wr => ∃ i : Nat, s = .int .i64 i ∧ i ≤ M.length ∧ OctAt wr w.heap.size N E (.slice A M.length c) ∧ Below base w wr ∧ w.heap.size < wr.heap.size ∧ ∃ X : List Int, X.length = M.length ∧ Ow wr base 2 .i64 A c X) (fun s _ => M.length - (intOf s).toNat)
  case atStart => exact ⟨0, rfl, by omega, hO, hBb, by omega, M, rfl, hoW⟩
  case round =>
    clear hoW hO hBb
    obtain ⟨i, rfl, hi, hO, hB, hl, X, hX, hoX⟩ := hrel
    obtain ⟨k0, k1, k2⟩ := id hO
    rcases Nat.lt_or_ge i M.length with hlt | hge
    · obtain ⟨g, rfl, hg1, hg2⟩ := ho.blockOf (by omega)
      have hc := hoX.cellAt' hX hlt
      have hf := hoX.frozenAt' i
      have ho' := hoX.set' i (-7)
      have hS := only_setCell (p := ⟨g, i, none⟩) (World.grownBy.refl wr (some g)) (.inl rfl) (.int .i64 (-7))
      have hO' := hO.only hS (by omega)
      have hB' := hB.setCell (p := ⟨g, i, none⟩) hg1 (.int .i64 (-7))
      have HX := Lib.hid hX
      have HO' := Lib.hid hO'
      have HB' := Lib.hid hB'
      have Ho' := Lib.hid ho'
      clear hX hO' hB' ho' hS hO hB hoX
      go_wp2_with fail
      go_roundw
      case rel => exact ⟨i + 1, by go_num, by omega, HO'.out, HB'.out, by simpa using hl, X.set i (-7), by rw [List.length_set]; exact HX.out, Ho'.out⟩
      case measure => simp [intOf]; omega
    · obtain rfl : i = M.length := by omega
      clear hX
      go_wp2_with fail
      go_end0
      exact ⟨rfl, hB⟩
theorem OctIn.keep {w w' : World} {B : Nat} {A : Option Addr} {c : Nat} {N : Int} {M : List Int} (h : OctIn w B A c N M) {B' : Nat} (hb : Below B' w w') (hB : B ≤ B') (hs : B ≤ w'.heap.size) : OctIn w' w'.heap.size A c N M :=
  (h.below (hb.mono hB)).more hs
theorem withP_fits {N : Int} {E : Bool} {M : List Int} {i j b : Int} (hN : I64 N) (hM : (M.length : Int) ≤ 17592186043904) : I64 (withP N E M i j b).1.1 ∧ ((withP N E M i j b).1.2.2.length : Int) ≤ 9223372036854775807 := by
  unfold withP
  split
  · exact ⟨by unfold I64; simp, by simp⟩
  split
  · exact ⟨by unfold I64; simp, by simp⟩
  split
  · exact ⟨hN, by simp⟩
  split
  · split
    · exact ⟨hN, by simp⟩
    · exact ⟨hN, by simp; omega⟩
  · exact ⟨hN, by simp [boundM]; omega⟩
set_option maxHeartbeats 4000000 in
theorem law_DbmCells (N : Int) (E : Bool) (A : Option Addr) (c : Nat) (M : List Int) (i j b : Int) (w : World) (h : OctIn w w.heap.size A c N M) (hM : (M.length : Int) ≤ 17592186043904) :
    Calls Try.prog 8 #[.agg #[.int .i64 N, .bool E, .slice A M.length c], .int .i64 i, .int .i64 j, .int .i64 b] w fun e w' => e = .returned (.bool true) ∧ Below w.heap.size w w' := by
  obtain ⟨W, hW, hO, hB, hs⟩ := one_box w 26 N E (.slice A M.length c)
  have h0 := h.go hB
  have cK := known12 W
  have hml : (M.length : Int) ≤ 9223372036854775807 := h.len
  have hfit := withP_fits (N := N) (E := E) (M := M) (i := i) (j := j) (b := b) h.hN hM
  go_enter Try.func8, Try.ntmps8
  go_wp2_with fail
  rw [← hW]
  clear hW
  refine cK.mono ?_
  clear cK
  rintro e w1 ⟨rfl, hb1⟩
  have h1 := h0.go hb1
  have hO1 := hO.below hb1
  have hB1 := hB.trans (hb1.mono (by omega))
  clear hb1 h0 hO hB h
  obtain ⟨k0, k1, k2⟩ := id hO1
  go_wp2_with fail
  refine (help_CopyOct N E A c M w1 h1.rd hM).mono ?_
  rintro e w2 ⟨A2, c2, rfl, ho2, hb2⟩
  have h2 := h1.go hb2
  have hl2 := ho2.oct h1.hN h1.i64
  have hO2 := hO1.below hb2
  have hB2 := hB1.trans (hb2.mono hB1.size)
  clear hb2 h1 hO1 hB1 k0 k1 k2 ho2
  obtain ⟨k0, k1, k2⟩ := id hO2
  have hlt2 := hO2.lt
  go_wp2_with fail
  obtain ⟨w3, hw3⟩ : ∃ w3, w3 = w2.alloc (.cells #[.int .i64 N, .bool E, .slice A2 M.length c2] /-T-/26) := ⟨_, rfl⟩
  have hL3 : OctAt w3 w2.heap.size N E (.slice A2 M.length c2) := by rw [hw3]; exact OctAt.box _ _ _ _ _
  have hb3 : Below w2.heap.size w2 w3 := by rw [hw3]; exact (Below.refl _ _).alloc (Nat.le_refl _) _
  have h3 := h2.go hb3
  have hl3 := hl2.go hb3
  have hO3 := hO2.below hb3
  have hB3 := hB2.trans (hb3.mono hB2.size)
  rw [← hw3]
  clear hw3 hb3 h2 hl2 hO2 hB2 k0 k1 k2
  refine (dbm_Get N E A2 c2 M i j w3 hl3).mono ?_
  rintro e w4 ⟨rfl, hb4⟩
  have h4 := h3.go hb4
  have hl4 := hl3.go hb4
  have hO4 := hO3.below hb4
  have hL4 := hL3.below hb4
  have hB4 := hB3.trans (hb4.mono hB3.size)
  clear hb4 h3 hl3 hO3 hL3 hB3
  obtain ⟨k0, k1, k2⟩ := id hO4
  go_wp2_with fail
  refine (ref_Get N E A c M i j w4 h4).mono ?_
  rintro e w5 ⟨rfl, hb5⟩
  have h5 := h4.go hb5
  have hl5 := hl4.go hb5
  have hO5 := hO4.below hb5
  have hL5 := hL4.below hb5
  have hB5 := hB4.trans (hb5.mono hB4.size)
  clear hb5 h4 hl4 hO4 hL4 hB4 k0 k1 k2
  generalize getP N E M i j = gp at *
  obtain ⟨gv, ge⟩ := gp
  have e1 : (gv != gv) = false := bne_self_eq_false ..
  have e2 : (ge != ge) = false := bne_self_eq_false ..
  obtain ⟨k0, k1, k2⟩ := id hL5
  go_wp2_with fail
  refine (dbm_With N E A2 c2 M i j b w5 hl5 hM).mono ?_
  rintro e w6 ⟨A6, c6, rfl, ho6, hb6⟩
  have h6 := h5.go hb6
  have hl6 := hl5.go hb6
  have hO6 := hO5.below hb6
  have hL6 := hL5.below hb6
  have hB6 := hB5.trans (hb6.mono hB5.size)
  have hs56 := hb6.size
  have hlt6 := hO6.lt
  have h5s : w5.heap.size ≤ w5.heap.size := Nat.le_refl _
  have hOb5 := hO5.lt
  have hLb5 := hL5.lt
  have hT6 := hb6
  clear hb6 k0 k1 k2
  obtain ⟨k0, k1, k2⟩ := id hO6
  have cW := fun X (hX : OctIn X X.heap.size A c N M) => ref_With N E A c M i j b X hX hM
  unfold TellsOct at cW
  generalize withP N E M i j b = P at *
  obtain ⟨⟨N6, E6, M6⟩, e6⟩ := P
  dsimp only at cW ho6 hfit ⊢
  have e3 : (e6 != e6) = false := bne_self_eq_false ..
  go_wp2_with fail
  obtain ⟨w7, hw7⟩ : ∃ w7, w7 = w6.alloc (.cells #[.int .i64 N6, .bool E6, .slice A6 M6.length c6] /-T-/26) := ⟨_, rfl⟩
  have hP7 : OctAt w7 w6.heap.size N6 E6 (.slice A6 M6.length c6) := by rw [hw7]; exact OctAt.box _ _ _ _ _
  have hb7 : Below w6.heap.size w6 w7 := by rw [hw7]; exact (Below.refl _ _).alloc (Nat.le_refl _) _
  have h7 := h6.go hb7
  have hl7 := hl6.go hb7
  have hO7 := hO6.below hb7
  have hL7 := hL6.below hb7
  have ho7 := ho6.below hb7
  have hB7 := hB6.trans (hb7.mono hB6.size)
  have hT7 := hT6.trans (hb7.mono hT6.size)
  rw [← hw7]
  clear hw7 hb7 h6 hl6 hO6 hL6 ho6 hB6 k0 k1 k2
  refine (cW _ h7).mono ?_
  clear cW
  rintro e w8 ⟨A8, c8, rfl, ho8, hb8⟩
  have h8 := h7.go hb8
  have hl8 := hl7.go hb8
  have hO8 := hO7.below hb8
  have hL8 := hL7.below hb8
  have hP8 := hP7.below hb8
  have hp8 := ho7.below hb8
  have hB8 := hB7.trans (hb8.mono hB7.size)
  have hT8 := hT7.trans (hb8.mono hT7.size)
  have hPl := hP8.lt
  clear hb8 h7 hl7 hO7 hL7 hP7 ho7 hB7
  obtain ⟨k0, k1, k2⟩ := id hP8
  go_wp2_with fail
  obtain ⟨w9, hw9⟩ : ∃ w9, w9 = w8.alloc (.cells #[.int .i64 N6, .bool E6, .slice A8 M6.length c8] /-T-/26) := ⟨_, rfl⟩
  have hb9 : Below w8.heap.size w8 w9 := by rw [hw9]; exact (Below.refl _ _).alloc (Nat.le_refl _) _
  have h9 := h8.go hb9
  have hl9 := hl8.go hb9
  have hO9 := hO8.below hb9
  have hL9 := hL8.below hb9
  have hP9 := hP8.below hb9
  have hp9 := hp8.below hb9
  have hq9 := ho8.below hb9
  have hB9 := hB8.trans (hb9.mono hB8.size)
  have hT9 := hT8.trans (hb9.mono hT8.size)
  rw [← hw9]
  clear hw9 hb9 h8 hl8 hO8 hL8 hP8 hp8 ho8 hB8 k0 k1 k2
  have cX := help_Oct N6 N6 E6 E6 A6 A8 c6 c8 M6 M6 w9 hp9.rd hq9.rd hfit.2 hfit.2
  rw [decide_eq_true ⟨rfl, rfl, rfl⟩] at cX
  refine cX.mono ?_
  clear cX hq9
  rintro e w10 ⟨rfl, hb10⟩
  have h10 := h9.go hb10
  have hl10 := hl9.go hb10
  have hO10 := hO9.below hb10
  have hL10 := hL9.below hb10
  have hP10 := hP9.below hb10
  have hp10 := hp9.below hb10
  have hB10 := hB9.trans (hb10.mono hB9.size)
  have hT10 := hT9.trans (hb10.mono hT9.size)
  clear hb10 h9 hl9 hO9 hL9 hP9 hp9 hB9
  obtain ⟨k0, k1, k2⟩ := id hL10
  obtain ⟨l0, l1, l2⟩ := id hO10
  go_wp2_with fail
  have cX := help_Oct N N E E A2 A c2 c M M w10 hl10.rd h10.rd hml hml
  rw [decide_eq_true ⟨rfl, rfl, rfl⟩] at cX
  refine cX.mono ?_
  clear cX k0 k1 k2 l0 l1 l2
  rintro e w11 ⟨rfl, hb11⟩
  have h11 := h10.go hb11
  have hl11 := hl10.go hb11
  have hO11 := hO10.below hb11
  have hL11 := hL10.below hb11
  have hP11 := hP10.below hb11
  have hp11 := hp10.below hb11
  have hB11 := hB10.trans (hb11.mono hB10.size)
  have hT11 := hT10.trans (hb11.mono hT10.size)
  clear hb11 h10 hl10 hO10 hL10 hP10 hp10 hB10
  obtain ⟨k0, k1, k2⟩ := id hP11
  go_wp2_with fail
  have h5w : w5.heap.size ≤ w11.heap.size := by have := hP11.lt; omega
  refine (help_SpoilOct N6 E6 A6 c6 M6 w11 w5.heap.size hp11 h5w hfit.2).mono ?_
  clear k0 k1 k2 hP11 hp11
  rintro e w12 ⟨rfl, hb12⟩
  have hT12 := hT11.trans hb12
  have h12 := h5.go hT12
  have hl12 := hl5.go hT12
  have hO12 := hO5.below hT12
  have hL12 := hL5.below hT12
  have hB12 : Below w.heap.size w w12 := hB5.trans (hT12.mono hB5.size)
  clear hT6 hT7 hT8 hT9 hT10 hT11 hT12 hb12 hO5 hL5 h5 hl5 hB11 hB5 hO11 hL11 h11 hl11
  obtain ⟨k0, k1, k2⟩ := id hL12
  obtain ⟨l0, l1, l2⟩ := id hO12
  go_wp2_with fail
  have cX := help_Oct N N E E A2 A c2 c M M w12 hl12.rd h12.rd hml hml
  rw [decide_eq_true ⟨rfl, rfl, rfl⟩] at cX
  refine cX.mono ?_
  clear cX k0 k1 k2 l0 l1 l2
  rintro e w13 ⟨rfl, hb13⟩
  have hB13 := hB12.trans (hb13.mono hB12.size)
  clear hb13
  go_wp2_with fail
  go_ret
  exact ⟨rfl, hB13⟩
end Go.Proofs.Ytgganboepfikiaa
