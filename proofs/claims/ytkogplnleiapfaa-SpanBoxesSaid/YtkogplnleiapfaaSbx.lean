/- The walk of the statement SpanBoxes. -/
import Derived.Test.YtkogplnleiapfaaSpr
import Derived.Test.YtkogplnleiapfaaCbz
import Derived.Test.YtkogplnleiapfaaObx
import Derived.Deep.DeepCutAuto
namespace Go.Proofs.Ytkogplnleiapfaa
open Go.RowKit
set_option linter.unusedVariables false
set_option linter.unusedSimpArgs false
namespace Gn
section
variable {a b c d : Int}
theorem box2_lo (ha : small a) (hc : small c) : ∀ v, small (nth [a, c] v) := small_nth (by intro x hx; simp at hx; rcases hx with rfl | rfl; exact ha; exact hc)
theorem half_two {x : Int} (h : -2147483648 ≤ x ∧ x ≤ 2147483648) : half (x + x) = x := by
  unfold half
  rw [asB_of (by unfold Bd; omega), if_neg (by omega)]
  omega
theorem sides_two {x y : Int} (hx : -20000000000 ≤ x ∧ x ≤ 20000000000) (hy : -20000000000 ≤ y ∧ y ≤ 20000000000) : sidesR x y = ⟨-y, x, true, true⟩ := by
  unfold sidesR toR
  rw [decide_eq_true (show y ≠ 9223372036854775807 by omega), decide_eq_true (show x ≠ 9223372036854775807 by omega)]
  rfl
theorem box2_all (ha : small a) (hb : small b) (hc : small c) (hd : small d) (h1 : a ≤ b) (h2 : c ≤ d) (M : List Int)
    (hM : M = boundM 4 (boundM 4 (boundM 4 (boundM 4 (topM 4) 0 1 (2 * b)) 1 0 (-2 * a)) 2 3 (2 * d)) 3 2 (-2 * c)) :
    ansP half 2 false M [0] (2 * (0 : Int)).toNat (2 * (0 : Int) + 1).toNat = ⟨⟨a, b, true, true⟩, true, 0⟩ ∧
    ansP (fun a => a) 2 false M [0, 1] (2 * (0 : Int)).toNat (2 * (1 : Int) + 1).toNat = ⟨⟨a + c, b + d, true, true⟩, true, 0⟩ ∧
    ansP (fun a => a) 2 false M [0, 1] (2 * (0 : Int)).toNat (2 * (1 : Int)).toNat = ⟨⟨a - d, b - c, true, true⟩, true, 0⟩ ∧
    M.length = 16 ∧ ∀ v ∈ M, I64 v := by
  have e : M = boxM 2 [a, c] [b, d] 2 := hM
  have hl := box2_lo ha hc
  have hh := box2_lo hb hd
  have hk : chk 2 false M = 0 := by rw [e]; exact chk_ok (n := 2) (by omega) (by rw [boxM_len]) (okM_box hl hh)
  obtain ⟨q1, q2, -, q4⟩ := boxes_law (n := 2) (by omega) hl hh rfl
  have hE : boxE [a, c] [b, d] 2 = false := by
    cases k : boxE [a, c] [b, d] 2
    · rfl
    · obtain ⟨v, hv, hlt⟩ := boxE_iff.1 k
      match v, hv with
      | 0, _ => have : b < a := hlt; omega
      | 1, _ => have : d < c := hlt; omega
  obtain ⟨q5, q6⟩ := q4 hE
  have q2' : (closeP 2 false M).1.1.1 = 2 := by rw [e]; exact q2
  have q5' : (closeP 2 false M).1.1.2.1 = false := by rw [e]; exact q5
  have q6' : (closeP 2 false M).1.1.2.2 = boxW 2 [a, c] [b, d] := by rw [e]; exact q6
  have hC : clo 2 false M = (2, false, boxW 2 [a, c] [b, d]) := by
    unfold clo
    exact Prod.ext q2' (Prod.ext q5' q6')
  have W : ∀ i j, i < 4 → j < 4 → i ≠ j → cl 4 (boxW 2 [a, c] [b, d]) i j = mostV [a, c] [b, d] i + mostV [a, c] [b, d] (ac j) := fun i j hi hj hij => by
    unfold boxW
    rw [show 2 * 2 = 4 from rfl, cl_mat hi hj, if_neg hij]
  have m0 : mostV [a, c] [b, d] 0 = b := rfl
  have m1 : mostV [a, c] [b, d] 1 = -a := rfl
  have m2 : mostV [a, c] [b, d] 2 = d := rfl
  have m3 : mostV [a, c] [b, d] 3 = -c := rfl
  have n0 : ac 0 = 1 := rfl
  have n1 : ac 1 = 0 := rfl
  have n2 : ac 2 = 3 := rfl
  have n3 : ac 3 = 2 := rfl
  unfold small at ha hb hc hd
  refine ⟨?_, ?_, ?_, by rw [e, boxM_len], chk_ints hk⟩
  · unfold ansP
    rw [if_neg (by rw [askE_in hk (by decide)]; omega), hC, if_neg (by simp)]
    show (⟨sidesR (half (cl 4 (boxW 2 [a, c] [b, d]) 0 1)) (half (cl 4 (boxW 2 [a, c] [b, d]) 1 0)), true, 0⟩ : Ans) = _
    rw [W 0 1 (by omega) (by omega) (by omega), W 1 0 (by omega) (by omega) (by omega), n0, n1, m0, m1, half_two (by omega), half_two (by omega), sides_two (by omega) (by omega), Int.neg_neg]
  · unfold ansP
    rw [if_neg (by rw [askE_in hk (by decide)]; omega), hC, if_neg (by simp)]
    show (⟨sidesR (cl 4 (boxW 2 [a, c] [b, d]) 0 3) (cl 4 (boxW 2 [a, c] [b, d]) 1 2), true, 0⟩ : Ans) = _
    rw [W 0 3 (by omega) (by omega) (by omega), W 1 2 (by omega) (by omega) (by omega), n2, n3, m0, m1, m2, m3, sides_two (by omega) (by omega), show -(-a + -c) = a + c by omega]
  · unfold ansP
    rw [if_neg (by rw [askE_in hk (by decide)]; omega), hC, if_neg (by simp)]
    show (⟨sidesR (cl 4 (boxW 2 [a, c] [b, d]) 0 2) (cl 4 (boxW 2 [a, c] [b, d]) 1 3), true, 0⟩ : Ans) = _
    rw [W 0 2 (by omega) (by omega) (by omega), W 1 3 (by omega) (by omega) (by omega), n2, n3, m0, m1, m2, m3, sides_two (by omega) (by omega), show -(-a + d) = a - d by omega, show b + -c = b - c by omega]
end
end Gn
open Gn
theorem law_both (x y : Int) (w : World) : Calls Try.prog 36 #[.int .i64 x, .int .i64 y] w fun e w' => e = .returned (.agg #[.int .i64 x, .int .i64 y, .bool true, .bool true]) ∧ Below w.heap.size w w' := by
  go_enter Try.func36, Try.ntmps36
  go_wp2_with fail
  refine bodyPost_ret (v := .agg #[.int .i64 x, .int .i64 y, .bool true, .bool true]) (by simp [results, Try.results36, go_sem]) rfl ⟨rfl, ?_⟩
  repeat (first | exact Below.refl _ _ | refine Below.setCell ?_ (by simp; omega) _ | refine Below.alloc ?_ (by simp; omega) _ | refine Below.setCell ?_ (by simp) _ | refine Below.alloc ?_ (by simp) _)
theorem Grow.b2 {w0 w : World} {bO g : Nat} {X : List Int} (h : Grow w0 w bO 2 g 16 X) (i j : Nat) (I J : Int) (b : Int) (hi : i < 4) (hj : j < 4) (hij : i ≠ j) (eI : (i : Int) = I) (eJ : (j : Int) = J) :
    Calls Try.prog 32 #[.agg #[.int .i64 2, .bool false, .slice (some ⟨g, 0, none⟩) 16 16], .int .i64 I, .int .i64 J, .int .i64 b] w fun e w' =>
      e = .returned (.agg #[.int .i64 2, .bool false, .slice (some ⟨g, 0, none⟩) 16 16]) ∧ Grow w0 w' bO 2 g 16 (boundM 4 X i j b) := by
  subst eI eJ
  exact h.bound (n := 2) (by omega) rfl b hi hj hij
theorem Grow.c2 {w0 w : World} {bO g : Nat} {X : List Int} (h : Grow w0 w bO 2 g 16 X) : OctAt w bO 2 false (.slice (some ⟨g, 0, none⟩) 16 16) := h.box.box
theorem Grow.p2 {w0 w : World} {bO g : Nat} {X : List Int} (h : Grow w0 w bO 2 g 16 X) :
    Grow w0 (((w.setCell ⟨bO, 0, none⟩ (.int .i64 2)).setCell ⟨bO, 1, none⟩ (.bool false)).setCell ⟨bO, 2, none⟩ (.slice (some ⟨g, 0, none⟩) 16 16)) bO 2 g 16 X := h.put
set_option maxRecDepth 100000 in
set_option maxHeartbeats 16000000 in
theorem law_SpanBoxes (a b c d : Int) (w : World) (ha : small a) (hb : small b) (hc : small c) (hd : small d) :
    Calls Try.prog 7 #[.int .i32 a, .int .i32 b, .int .i32 c, .int .i32 d] w fun e w' => e = .returned (.bool true) ∧ Below w.heap.size w w' := by
  have cK := known15 w
  obtain ⟨sa1, sa2⟩ := id ha
  obtain ⟨sb1, sb2⟩ := id hb
  obtain ⟨sc1, sc2⟩ := id hc
  obtain ⟨sd1, sd2⟩ := id hd
  go_enter Try.func7, Try.ntmps7
  go_wp2_with fail
  with_reducible refine cK.mono ?_
  clear cK
  rintro e w1 ⟨rfl, hB1⟩
  by_cases h1 : b < a
  · have q1 : decide (b < a) = true := decide_eq_true h1
    go_wp2_with fail
    go_ret
    exact ⟨rfl, hB1⟩
  · have q1 : decide (b < a) = false := decide_eq_false h1
    by_cases h2 : d < c
    · have q2 : decide (d < c) = true := decide_eq_true h2
      go_wp2_with fail
      go_ret
      exact ⟨rfl, hB1⟩
    · have q2 : decide (d < c) = false := decide_eq_false h2
      obtain ⟨M4, hM4⟩ : ∃ M, M = boundM 4 (boundM 4 (boundM 4 (boundM 4 (topM 4) 0 1 (2 * b)) 1 0 (-2 * a)) 2 3 (2 * d)) 3 2 (-2 * c) := ⟨_, rfl⟩
      obtain ⟨x1, x2, x3, x4, x5⟩ := box2_all ha hb hc hd (by omega) (by omega) M4 hM4
      have cV := fun (X : World) (g : Nat) (h : OctIn X X.heap.size (some ⟨g, 0, none⟩) 16 2 M4) => span_Var ⟨2, false, some ⟨g, 0, none⟩, 16, M4⟩ 0 X h (by rw [x4]; omega) _ x1
      have cS := fun (X : World) (g : Nat) (h : OctIn X X.heap.size (some ⟨g, 0, none⟩) 16 2 M4) => span_Sum ⟨2, false, some ⟨g, 0, none⟩, 16, M4⟩ 0 1 X h (by rw [x4]; omega) _ x2
      have cD := fun (X : World) (g : Nat) (h : OctIn X X.heap.size (some ⟨g, 0, none⟩) 16 2 M4) => span_Diff ⟨2, false, some ⟨g, 0, none⟩, 16, M4⟩ 0 1 X h (by rw [x4]; omega) _ x3
      dsimp only at cV cS cD
      rw [x4] at cV cS cD
      have cO : ∀ (X : World) (g bO : Nat), Grow w X bO 2 g 16 M4 → OctIn X X.heap.size (some ⟨g, 0, none⟩) 16 2 M4 := fun X g bO h => h.row.oct (by unfold I64; omega) x5
      have HM := Lib.hid hM4
      have cT := fun W => ref_Top 2 W (by omega)
      rw [show ((2 : Nat) : Int) = 2 from rfl] at cT
      clear x1 x2 x3 x4 x5 hM4 ha hb hc hd h1 h2
      go_wp2_with fail
      with_reducible refine (cT _).mono ?_
      clear cT q1 q2
      rintro e w2 ⟨g, M, hM, rfl, ho, hb2⟩
      have hM16 : M.length = 16 := by rw [hM]; exact topM_len _
      have hM' : M = topM 4 := hM
      have HT := Lib.hid hM'
      clear hM hM'
      rw [hM16] at ho ⊢
      obtain ⟨w3, hw3⟩ : ∃ w3, w3 = w2.alloc (.cells #[.int .i64 2, .bool false, .slice (some ⟨g, 0, none⟩) 16 16] 24) := ⟨_, rfl⟩
      have hb3 : Below w2.heap.size w2 w3 := by rw [hw3]; exact (Below.refl _ _).alloc (Nat.le_refl _) _
      have hB2 := hB1.trans (hb2.mono hB1.size)
      have hg2 := ho.blockGe
      have G : Grow w w3 w2.heap.size 2 g 16 M :=
        ⟨by rw [hw3]; exact OctBox.new _ _ _ _ _, (ho.below hb3).lower hB1.size, by omega, hM16, hB2.trans (hb3.mono hB2.size), hB2.size⟩
      clear hb3 ho hb2 hB2 hB1 hg2 hM16
      go_upto_region 7 with fail
      rw [← hw3]
      clear hw3
      generalize w2.heap.size = bO at *
      clear w2
      have c1 := fun (W : World) (h : Grow w W bO 2 g 16 M) => h.b2 0 1 0 1 (2 * b) (by omega) (by omega) (by omega) rfl rfl
      obtain ⟨X1, hX1⟩ : ∃ X, X = boundM 4 M 0 1 (2 * b) := ⟨_, rfl⟩
      rw [← hX1] at c1
      have c2 := fun (W : World) (h : Grow w W bO 2 g 16 X1) => h.b2 1 0 1 0 (-2 * a) (by omega) (by omega) (by omega) rfl rfl
      obtain ⟨X2, hX2⟩ : ∃ X, X = boundM 4 X1 1 0 (-2 * a) := ⟨_, rfl⟩
      rw [← hX2] at c2
      have c3 := fun (W : World) (h : Grow w W bO 2 g 16 X2) => h.b2 2 3 2 3 (2 * d) (by omega) (by omega) (by omega) rfl rfl
      obtain ⟨X3, hX3⟩ : ∃ X, X = boundM 4 X2 2 3 (2 * d) := ⟨_, rfl⟩
      rw [← hX3] at c3
      have c4 := fun (W : World) (h : Grow w W bO 2 g 16 X3) => h.b2 3 2 3 2 (-2 * c) (by omega) (by omega) (by omega) rfl rfl
      rw [show boundM 4 X3 3 2 (-2 * c) = M4 by rw [HM.out, hX3, hX2, hX1, HT.out]] at c4
      clear hX1 hX2 hX3 HM HT
      obtain ⟨k0, k1, k2⟩ := id G.c2
      go_wp2_with fail
      with_reducible refine (c1 _ G).mono ?_
      clear c1 k0 k1 k2 G
      rintro e v1 ⟨rfl, G⟩
      obtain ⟨k0, k1, k2⟩ := id G.c2
      have kf := G.box.fz
      have HG := Lib.hid G.p2
      clear G
      go_upto_region 8 with fail
      have G := HG.out
      clear HG k0 k1 k2 kf
      generalize (((v1.setCell ⟨bO, 0, none⟩ (.int .i64 2)).setCell ⟨bO, 1, none⟩ (.bool false)).setCell ⟨bO, 2, none⟩ (.slice (some ⟨g, 0, none⟩) 16 16)) = x1 at *
      obtain ⟨k0, k1, k2⟩ := id G.c2
      go_wp2_with fail
      with_reducible refine (c2 _ G).mono ?_
      clear c2 k0 k1 k2 G
      rintro e v2 ⟨rfl, G⟩
      obtain ⟨k0, k1, k2⟩ := id G.c2
      have kf := G.box.fz
      have HG := Lib.hid G.p2
      clear G
      go_upto_region 9 with fail
      have G := HG.out
      clear HG k0 k1 k2 kf
      generalize (((v2.setCell ⟨bO, 0, none⟩ (.int .i64 2)).setCell ⟨bO, 1, none⟩ (.bool false)).setCell ⟨bO, 2, none⟩ (.slice (some ⟨g, 0, none⟩) 16 16)) = x2 at *
      obtain ⟨k0, k1, k2⟩ := id G.c2
      go_wp2_with fail
      with_reducible refine (c3 _ G).mono ?_
      clear c3 k0 k1 k2 G
      rintro e v3 ⟨rfl, G⟩
      obtain ⟨k0, k1, k2⟩ := id G.c2
      have kf := G.box.fz
      have HG := Lib.hid G.p2
      clear G
      go_upto_region 10 with fail
      have G := HG.out
      clear HG k0 k1 k2 kf
      generalize (((v3.setCell ⟨bO, 0, none⟩ (.int .i64 2)).setCell ⟨bO, 1, none⟩ (.bool false)).setCell ⟨bO, 2, none⟩ (.slice (some ⟨g, 0, none⟩) 16 16)) = x3 at *
      obtain ⟨k0, k1, k2⟩ := id G.c2
      go_wp2_with fail
      with_reducible refine (c4 _ G).mono ?_
      clear c4 k0 k1 k2 G
      rintro e v4 ⟨rfl, G⟩
      obtain ⟨k0, k1, k2⟩ := id G.c2
      have kf := G.box.fz
      have HG := Lib.hid G.p2
      clear G
      go_upto_region 11 with fail
      have G := HG.out
      clear HG k0 k1 k2 kf
      generalize (((v4.setCell ⟨bO, 0, none⟩ (.int .i64 2)).setCell ⟨bO, 1, none⟩ (.bool false)).setCell ⟨bO, 2, none⟩ (.slice (some ⟨g, 0, none⟩) 16 16)) = x4 at *
      obtain ⟨k0, k1, k2⟩ := id G.c2
      go_wp2_with fail
      with_reducible refine (cV _ _ (cO _ _ _ G)).mono ?_
      clear cV k0 k1 k2
      rintro e y1 ⟨rfl, hb1⟩
      replace G := G.go hb1
      clear hb1
      obtain ⟨z1, hz1⟩ : ∃ X, X = y1.alloc (.cells #[.int .i64 a, .int .i64 b, .bool true, .bool true] 50) := ⟨_, rfl⟩
      have hb1 : Below y1.heap.size y1 z1 := by rw [hz1]; exact (Below.refl _ _).alloc (Nat.le_refl _) _
      have R1 : RgBox z1 y1.heap.size a b true true := by rw [hz1]; exact RgBox.new _ _ _ _ _ _
      replace G := G.go hb1
      clear hb1
      go_upto_region 12 with fail
      rw [← hz1]
      clear hz1
      generalize y1.heap.size = b1 at *
      clear y1
      obtain ⟨k0, k1, k2⟩ := id G.c2
      go_wp2_with fail
      with_reducible refine (cS _ _ (cO _ _ _ G)).mono ?_
      clear cS k0 k1 k2
      rintro e y1 ⟨rfl, hb1⟩
      replace G := G.go hb1
      replace R1 := R1.go hb1
      clear hb1
      obtain ⟨z1, hz1⟩ : ∃ X, X = y1.alloc (.cells #[.int .i64 (a + c), .int .i64 (b + d), .bool true, .bool true] 50) := ⟨_, rfl⟩
      have hb1 : Below y1.heap.size y1 z1 := by rw [hz1]; exact (Below.refl _ _).alloc (Nat.le_refl _) _
      have R2 : RgBox z1 y1.heap.size (a + c) (b + d) true true := by rw [hz1]; exact RgBox.new _ _ _ _ _ _
      replace G := G.go hb1
      replace R1 := R1.go hb1
      clear hb1
      go_upto_region 13 with fail
      rw [← hz1]
      clear hz1
      generalize y1.heap.size = b2 at *
      clear y1
      obtain ⟨k0, k1, k2⟩ := id G.c2
      go_wp2_with fail
      with_reducible refine (cD _ _ (cO _ _ _ G)).mono ?_
      clear cD k0 k1 k2
      rintro e y1 ⟨rfl, hb1⟩
      replace G := G.go hb1
      replace R1 := R1.go hb1
      replace R2 := R2.go hb1
      clear hb1
      obtain ⟨z1, hz1⟩ : ∃ X, X = y1.alloc (.cells #[.int .i64 (a - d), .int .i64 (b - c), .bool true, .bool true] 50) := ⟨_, rfl⟩
      have hb1 : Below y1.heap.size y1 z1 := by rw [hz1]; exact (Below.refl _ _).alloc (Nat.le_refl _) _
      have R3 : RgBox z1 y1.heap.size (a - d) (b - c) true true := by rw [hz1]; exact RgBox.new _ _ _ _ _ _
      replace G := G.go hb1
      replace R1 := R1.go hb1
      replace R2 := R2.go hb1
      clear hb1
      go_upto_region 14 with fail
      rw [← hz1]
      clear hz1
      generalize y1.heap.size = b3 at *
      clear y1 cO
      obtain ⟨k0, k1, k2, k3, kf⟩ := R1
      obtain ⟨l0, l1, l2, l3, lf⟩ := R2
      obtain ⟨m0, m1, m2, m3, mf⟩ := R3
      have a0 := After.cell k0
      have a1 := After.cell k1
      have a2 := After.cell k2
      have a3 := After.cell k3
      have e0 := After.cell l0
      have e1 := After.cell l1
      have e2 := After.cell l2
      have e3 := After.cell l3
      have f0 := After.cell m0
      have f1 := After.cell m1
      have f2 := After.cell m2
      have f3 := After.cell m3
      clear k0 k1 k2 k3 kf l0 l1 l2 l3 lf m0 m1 m2 m3 mf
      go_wp2_with fail
      refine wp_region_after (by kernel_rfl) (by kernel_rfl) ?_
      repeat (go_big_quiet_step (first | (go_at_call 36; with_reducible exact after_of (law_both _ _ _))))
      refine wpQuiet_nil ?_
      intro v2 hb2
      have hend := Lib.hid (G.go hb2).below
      go_wp2_with fail
      go_ret
      exact ⟨rfl, hend.out⟩
end Go.Proofs.Ytkogplnleiapfaa
