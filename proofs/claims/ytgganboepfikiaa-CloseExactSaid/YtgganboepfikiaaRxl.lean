/- The walk of the statement CloseExact. -/
import Derived.Test.YtgganboepfikiaaRex
namespace Go.Proofs.Ytgganboepfikiaa
open Go.RowKit
set_option linter.unusedVariables false
set_option linter.unusedSimpArgs false
open Gn
theorem help_OctSame (N : Int) (E : Bool) (A A' : Option Addr) (c c' : Nat) (xs : List Int) (w : World) (hx : Rd w w.heap.size .i64 A xs.length (nth xs)) (hy : Rd w w.heap.size .i64 A' xs.length (nth xs)) (hm : (xs.length : Int) ≤ 9223372036854775807) :
    Calls Try.prog 22 #[.agg #[.int .i64 N, .bool E, .slice A xs.length c], .agg #[.int .i64 N, .bool E, .slice A' xs.length c']] w fun e w' => e = .returned (.bool true) ∧ Below w.heap.size w w' := by
  have cX := help_Oct N N E E A A' c c' xs xs w hx hy hm hm
  rw [decide_eq_true ⟨rfl, rfl, rfl⟩] at cX
  exact cX
set_option maxHeartbeats 4000000 in
theorem law_CloseExact (N : Int) (E : Bool) (A : Option Addr) (c : Nat) (M : List Int) (n : Int) (w : World) (h : OctIn w w.heap.size A c N M) (hM : (M.length : Int) ≤ 17592186043904) :
    Calls Try.prog 10 #[.agg #[.int .i64 N, .bool E, .slice A M.length c], .int .i64 n] w fun e w' => e = .returned (.bool true) ∧ Below w.heap.size w w' := by
  obtain ⟨W, hW, hO, hB, hs⟩ := one_box w 26 N E (.slice A M.length c)
  have h0 := h.go hB
  have cK := known13 W
  have hml : (M.length : Int) ≤ 9223372036854775807 := h.len
  go_enter Try.func10, Try.ntmps10
  go_wp2_with fail
  rw [← hW]
  clear hW
  refine cK.mono ?_
  clear cK
  rintro e w1 ⟨rfl, hb1⟩
  have h1 := h0.go hb1
  have hO1 := hO.below hb1
  have hB1 := hB.trans (hb1.mono (by omega))
  clear hb1 h0 hO hB h
  obtain ⟨k0, k1, k2⟩ := id hO1
  go_wp2_with fail
  refine (help_CopyOct N E A c M w1 h1.rd hM).mono ?_
  rintro e w2 ⟨A2, c2, rfl, ho2, hb2⟩
  have h2 := h1.go hb2
  have hl2 := ho2.oct h1.hN h1.i64
  have hO2 := hO1.below hb2
  have hB2 := hB1.trans (hb2.mono hB1.size)
  clear hb2 h1 hO1 hB1 k0 k1 k2 ho2
  obtain ⟨k0, k1, k2⟩ := id hO2
  have hlt2 := hO2.lt
  obtain ⟨Q, hQ⟩ : ∃ Q, Q = closeP N E M := ⟨_, rfl⟩
  go_wp2_with fail
  obtain ⟨w3, hw3⟩ : ∃ w3, w3 = w2.alloc (.cells #[.int .i64 N, .bool E, .slice A2 M.length c2] /-T-/26) := ⟨_, rfl⟩
  have hL3 : OctAt w3 w2.heap.size N E (.slice A2 M.length c2) := by rw [hw3]; exact OctAt.box _ _ _ _ _
  have hb3 : Below w2.heap.size w2 w3 := by rw [hw3]; exact (Below.refl _ _).alloc (Nat.le_refl _) _
  have h3 := h2.go hb3
  have hl3 := hl2.go hb3
  have hO3 := hO2.below hb3
  have hB3 := hB2.trans (hb3.mono hB2.size)
  have hLt3 := hL3.lt
  rw [← hw3]
  clear hw3 hb3 h2 hl2 hO2 hB2 k0 k1 k2
  refine (close_CloseW N E A2 c2 M w3 hl3 hM Q hQ.symm).mono ?_
  have hlq : (Q.1.1.2.2.length : Int) ≤ 9223372036854775807 := by
    have := closeP_len (N := N) (E := E) (M := M)
    rw [hQ]; omega
  have cR := fun X hX => ref13_Close N E A c M X hX hM Q hQ.symm
  have cZ := fun X hX => close_Closed N E A2 c2 M X hX hM Q hQ.symm
  clear hQ
  unfold TellsCl at cR
  obtain ⟨⟨⟨Nc, Ec, Mc⟩, sc⟩, ec⟩ := Q
  rintro e w4 ⟨A4, c4, rfl, ho4, hb4⟩
  dsimp only at ho4 cR cZ hlq ⊢
  have h4 := h3.go hb4
  have hl4 := hl3.go hb4
  have hO4 := hO3.below hb4
  have hL4 := hL3.below hb4
  have hT4 := hb4
  have hBw : Below w.heap.size w w4 := hB3.trans (hb4.mono hB3.size)
  have hs34 := hb4.size
  have hO4lt := hO4.lt
  clear hb4
  obtain ⟨k0, k1, k2⟩ := id hO4
  go_wp2_with fail
  obtain ⟨w5, hw5⟩ : ∃ w5, w5 = w4.alloc (.cells #[.int .i64 Nc, .bool Ec, .slice A4 Mc.length c4] /-T-/26) := ⟨_, rfl⟩
  have hC5 : OctAt w5 w4.heap.size Nc Ec (.slice A4 Mc.length c4) := by rw [hw5]; exact OctAt.box _ _ _ _ _
  have hb5 : Below w4.heap.size w4 w5 := by rw [hw5]; exact (Below.refl _ _).alloc (Nat.le_refl _) _
  have h5 := h4.go hb5
  have hl5 := hl4.go hb5
  have hO5 := hO4.below hb5
  have hL5 := hL4.below hb5
  have ho5 := ho4.below hb5
  have hT5 := hT4.trans (hb5.mono hT4.size)
  have hC5lt := hC5.lt
  have hg4 := fun g (hg : A4 = some ⟨g, 0, none⟩) => (show g < w5.heap.size by
    have := ho5
    rw [hg] at this
    exact this.blockGe.2)
  have hg4' := fun g (hg : A4 = some ⟨g, 0, none⟩) => (show w3.heap.size ≤ g ∧ g < w4.heap.size by
    have := ho4
    rw [hg] at this
    exact this.blockGe)
  have HG4 := Lib.hid hg4
  have HG4' := Lib.hid hg4'
  rw [← hw5]
  clear hw5 hb5 h4 hl4 hO4 hL4 ho4 hT4 k0 k1 k2 hg4 hg4'
  refine (cR w5 h5).mono ?_
  clear cR
  rintro e w6 ⟨A6, c6, rfl, ho6, hb6⟩
  dsimp only at ho6 ⊢
  have h6 := h5.go hb6
  have hl6 := hl5.go hb6
  have hO6 := hO5.below hb6
  have hL6 := hL5.below hb6
  have hC6 := hC5.below hb6
  have hc6 := ho5.below hb6
  have hT6 := hT5.trans (hb6.mono hT5.size)
  have hs56 := hb6.size
  have hC6lt := hC6.lt
  have HG6 := Lib.hid (fun g (hg : A6 = some ⟨g, 0, none⟩) => (show w5.heap.size ≤ g ∧ g < w6.heap.size by
    have := ho6
    rw [hg] at this
    exact this.blockGe))
  clear hb6 h5 hl5 hO5 hL5 hC5 ho5 hT5
  obtain ⟨k0, k1, k2⟩ := id hC6
  obtain ⟨l0, l1, l2⟩ := id hL6
  obtain ⟨m0, m1, m2⟩ := id hO6
  have e1 : (ec != ec) = false := bne_self_eq_false ec
  have e2 : (sc != sc) = false := by cases sc <;> rfl
  have hal : ∀ o, Below w6.heap.size w6 (w6.alloc o) := fun o => (Below.refl _ _).alloc (Nat.le_refl _) _
  have cX := fun (y : World) (hb : Below w6.heap.size w6 y) => help_OctSame Nc Ec A4 A6 c4 c6 Mc y ((hc6.below hb).rd) ((ho6.below hb).rd) hlq
  go_wp2_with fail
  obtain ⟨w7, hw7⟩ : ∃ w7, w7 = w6.alloc (.cells #[.int .i64 Nc, .bool Ec, .slice A6 Mc.length c6] /-T-/26) := ⟨_, rfl⟩
  have hD7 : OctAt w7 w6.heap.size Nc Ec (.slice A6 Mc.length c6) := by rw [hw7]; exact OctAt.box _ _ _ _ _
  have hb7 : Below w6.heap.size w6 w7 := by rw [hw7]; exact hal _
  rw [← hw7]
  clear hw7 hal
  refine (cX w7 hb7).mono ?_
  clear cX k0 k1 k2 l0 l1 l2 m0 m1 m2
  rintro e w8 ⟨rfl, hb8⟩
  have hb8' := hb7.trans (hb8.mono hb7.size)
  have h8 := h6.go hb8'
  have hl8 := hl6.go hb8'
  have hO8 := hO6.below hb8'
  have hL8 := hL6.below hb8'
  have hC8 := hC6.below hb8'
  have hc8 := hc6.below hb8'
  have hd8 := ho6.below hb8'
  have hD8 := hD7.below hb8
  have hT8 := hT6.trans (hb8'.mono hT6.size)
  clear hb7 hb8 hb8' h6 hl6 hO6 hL6 hC6 hc6 ho6 hD7 hT6 e1 e2
  obtain ⟨l0, l1, l2⟩ := id hL8
  obtain ⟨m0, m1, m2⟩ := id hO8
  have cX := help_OctSame N E A2 A c2 c M w8 hl8.rd h8.rd hml
  go_wp2_with fail
  refine cX.mono ?_
  clear cX l0 l1 l2 m0 m1 m2
  rintro e w9 ⟨rfl, hb9⟩
  have cC := fun W => close_Cost n W
  have cD := fun W => ref_Cost n W
  generalize costV n = cv at *
  have hcv : (cv != cv) = false := bne_self_eq_false cv
  go_wp2_with fail
  refine (cC _).mono ?_
  rintro e w10 ⟨rfl, hb10⟩
  go_wp2_with fail
  refine (cD _).mono ?_
  rintro e w11 ⟨rfl, hb11⟩
  have hb8' := hb9.trans ((hb10.trans (hb11.mono hb10.size)).mono hb9.size)
  clear cC cD hb9 hb10 hb11
  have h11 := h8.go hb8'
  have hl11 := hl8.go hb8'
  have hO11 := hO8.below hb8'
  have hL11 := hL8.below hb8'
  have hC11 := hC8.below hb8'
  have hc11 := hc8.below hb8'
  have hd11 := hd8.below hb8'
  have hD11 := hD8.below hb8'
  have hT11 := hT8.trans (hb8'.mono hT8.size)
  clear hb8' h8 hl8 hO8 hL8 hC8 hc8 hd8 hD8 hT8
  obtain ⟨k0, k1, k2⟩ := id hC11
  go_wp2_with fail
  clear hcv k0 k1 k2
  refine (help_SpoilG Nc Ec A4 c4 Mc w11 w3.heap.size hc11 hlq).mono ?_
  rintro e w12 ⟨rfl, g, hG, hgA⟩
  have hs11 := hT11.size
  have hD11lt := hD11.lt
  have hC11lt := hC11.lt
  have hO11lt := hO11.lt
  have hL11lt := hL11.lt
  have hgg : w3.heap.size ≤ g ∧ g ≠ w6.heap.size ∧ (g < w4.heap.size ∨ g = w11.heap.size) := by
    rcases hgA with hgA | rfl
    · have := HG4'.out g hgA
      omega
    · omega
  have hd12 := hd11.turned hG (fun g' hg' => by have := HG6.out g' hg'; omega)
  have hD12 := hD11.only hG (by omega)
  have hT12 := hT11.trans (only_back hG hs11 hgg.1)
  have h12 := h3.go hT12
  have hl12 := hl3.go hT12
  have hO12 := hO3.below hT12
  have hL12 := hL3.below hT12
  have hBw12 := hB3.trans (hT12.mono hB3.size)
  clear hG hgA hd11 hD11 hT11 h11 hl11 hO11 hL11 hC11 hc11 hT12 hB3 hBw h3 hl3 hO3 hL3
  obtain ⟨l0, l1, l2⟩ := id hL12
  obtain ⟨m0, m1, m2⟩ := id hO12
  go_wp2_with fail
  have cX := help_OctSame N E A2 A c2 c M w12 hl12.rd h12.rd hml
  refine cX.mono ?_
  clear cX m0 m1 m2 l0 l1 l2
  rintro e w13 ⟨rfl, hb13⟩
  have h13 := h12.go hb13
  have hl13 := hl12.go hb13
  have hO13 := hO12.below hb13
  have hL13 := hL12.below hb13
  have hd13 := hd12.below hb13
  have hD13 := hD12.below hb13
  have hB13 := hBw12.trans (hb13.mono hBw12.size)
  clear hb13 h12 hl12 hO12 hL12 hd12 hD12 hBw12
  obtain ⟨l0, l1, l2⟩ := id hL13
  go_wp2_with fail
  refine (cZ w13 hl13).mono ?_
  clear cZ l0 l1 l2
  rintro e w14 ⟨rfl, hb14⟩
  have h14 := h13.go hb14
  have hO14 := hO13.below hb14
  have hd14 := hd13.below hb14
  have hD14 := hD13.below hb14
  have hB14 := hB13.trans (hb14.mono hB13.size)
  clear hb14 h13 hl13 hO13 hL13 hd13 hD13 hB13
  obtain ⟨m0, m1, m2⟩ := id hO14
  obtain ⟨k0, k1, k2⟩ := id hD14
  have e1 : (ec == ec) = true := beq_self_eq_true ec
  have cX := help_Oct Nc N Ec E A6 A c6 c Mc M w14 hd14.rd h14.rd hlq hml
  by_cases he : ec = 0
  · subst he
    rw [decide_eq_true (show (0 : Int) = 0 from rfl), Bool.true_and]
    generalize decide (Nc = N ∧ Ec = E ∧ Mc = M) = dd at *
    have hdd : (dd == dd) = true := by cases dd <;> rfl
    clear e1
    go_wp2_with fail
    refine cX.mono ?_
    clear cX m0 m1 m2 k0 k1 k2
    rintro e w15 ⟨rfl, hb15⟩
    have hB15 := hB14.trans (hb15.mono hB14.size)
    clear hb15
    go_wp2_with fail
    go_ret
    exact ⟨rfl, hB15⟩
  · rw [decide_eq_false he, Bool.false_and]
    have heb : (ec == 0) = false := beq_eq_false_iff_ne.2 he
    clear cX he
    go_wp2_with fail
    go_ret
    exact ⟨rfl, hB14⟩
end Go.Proofs.Ytgganboepfikiaa
