/- The law OrderForgets. -/
import Derived.Test.YtkgddgckilledaaFgr
import Derived.Test.YtkgddgckilledaaOrt
namespace Go.Proofs.Ytkgddgckilledaa
open Go.RowKit
set_option linter.unusedVariables false
set_option linter.unusedSimpArgs false
open Gn
/-- What a law holds: an octagon that came in, in its box. -/
structure Lh (w : World) (N : Int) (E : Bool) (A : Option Addr) (c : Nat) (M : List Int) (W : World) : Prop where
  box : OctAt W w.heap.size N E (.slice A M.length c)
  oin : OctIn W W.heap.size A c N M
  below : Below w.heap.size w W
theorem Lh.go {w W W' : World} {N : Int} {E : Bool} {A : Option Addr} {c : Nat} {M : List Int} (h : Lh w N E A c M W) (hb : Below W.heap.size W W') : Lh w N E A c M W' :=
  ⟨h.box.below hb, h.oin.go hb, h.below.trans (hb.mono h.below.size)⟩
/-- An octagon of the law's own, in its box. -/
structure Oh (b base : Nat) (P : Int × Bool × List Int) (A : Option Addr) (c : Nat) (W : World) : Prop where
  box : OctAt W b P.1 P.2.1 (.slice A P.2.2.length c)
  row : Ow W base 2 .i64 A c P.2.2
theorem Oh.go {W W' : World} {b base : Nat} {P : Int × Bool × List Int} {A : Option Addr} {c : Nat} (h : Oh b base P A c W) (hb : Below W.heap.size W W') : Oh b base P A c W' :=
  ⟨h.box.below hb, h.row.below hb⟩
theorem Oh.new {W : World} {base : Nat} {N : Int} {E : Bool} {M : List Int} {A : Option Addr} {c : Nat} (ho : Ow W base 2 .i64 A c M) : ∃ W', W' = W.alloc (.cells #[.int .i64 N, .bool E, .slice A M.length c] 24) ∧ Oh W.heap.size base (N, E, M) A c W' ∧ Below W.heap.size W W' :=
  ⟨_, rfl, ⟨OctAt.box _ _ _ _ _, ho.alloc _⟩, (Below.refl _ _).alloc (Nat.le_refl _) _⟩
theorem Gn.len_of_chk {N : Int} {E : Bool} {M : List Int} (h : chk N E M = 0) : (M.length : Int) ≤ 16384 := by
  obtain ⟨m, _, hm, h0, h1⟩ := chk_zero h
  rcases E with _ | _
  · rw [(h1 rfl).1]; have := sq_le hm; omega
  · rw [h0 rfl]; simp
theorem Gn.forgetR_len {N : Int} {E : Bool} {M : List Int} {v : Int} : ((forgetR N E M v).2.2.length : Int) ≤ 16384 := by
  unfold forgetR
  split
  · rename_i h
    have hc : chk N E M = 0 := by
      unfold forgetE at h
      split at h
      · rename_i k; exact absurd h k
      · rename_i k; exact Decidable.not_not.1 k
    obtain ⟨n, rfl, _⟩ := chk_zero hc
    exact len_of_chk (forgetP_chk (g := fun u => decide ((u : Int) = v)) hc).2
  · simp
theorem Gn.keepR_len {N : Int} {E : Bool} {M l : List Int} : ((keepR N E M l).2.2.length : Int) ≤ 16384 := by
  unfold keepR
  split
  · rename_i h
    have hc : chk N E M = 0 := by
      unfold keepE at h
      split at h
      · rename_i k; exact absurd h k
      · rename_i k; exact Decidable.not_not.1 k
    obtain ⟨n, rfl, _⟩ := chk_zero hc
    exact len_of_chk (forgetP_chk (g := outOf l) hc).2
  · simp
theorem s7_below {W X Y : World} {b1 b2 : Nat} {u0 u1 u2 v0 v1 v2 : Value} (hb : Below X.heap.size X Y) (h : X.cell? ⟨b1, 0, none⟩ = some u0 ∧ X.cell? ⟨b1, 1, none⟩ = some u1 ∧ X.cell? ⟨b1, 2, none⟩ = some u2 ∧ X.cell? ⟨b2, 0, none⟩ = some v0 ∧ X.cell? ⟨b2, 1, none⟩ = some v1 ∧ X.cell? ⟨b2, 2, none⟩ = some v2 ∧ Below W.heap.size W X) :
    Y.cell? ⟨b1, 0, none⟩ = some u0 ∧ Y.cell? ⟨b1, 1, none⟩ = some u1 ∧ Y.cell? ⟨b1, 2, none⟩ = some u2 ∧ Y.cell? ⟨b2, 0, none⟩ = some v0 ∧ Y.cell? ⟨b2, 1, none⟩ = some v1 ∧ Y.cell? ⟨b2, 2, none⟩ = some v2 ∧ Below W.heap.size W Y := by
  obtain ⟨h1, h2, h3, h4, h5, h6, h7⟩ := h
  exact ⟨below_cell hb h1, below_cell hb h2, below_cell hb h3, below_cell hb h4, below_cell hb h5, below_cell hb h6, h7.trans (hb.mono h7.size)⟩
set_option maxRecDepth 100000 in
set_option maxHeartbeats 16000000 in
theorem law_OrderForgets (N : Int) (E : Bool) (A : Option Addr) (c : Nat) (M : List Int) (v : Int) (AL : Option Addr) (cL : Nat) (l : List Int) (w : World) (ha : OctIn w w.heap.size A c N M) (hma : (M.length : Int) ≤ 17592186043904) (hv : I64 v) (hr : Rd w w.heap.size .i64 AL l.length (nth l)) (hl : ∀ x ∈ l, I64 x) (hln : (l.length : Int) ≤ 9223372036854775807) :
    Calls Try.prog 7 #[.agg #[.int .i64 N, .bool E, .slice A M.length c], .int .i64 v, .slice AL l.length cL] w fun e w' => e = .returned (.bool true) ∧ Below w.heap.size w w' := by
  obtain ⟨W, hW, h1, hB, hs⟩ := one_box w 24 N E (.slice A M.length c)
  have hL : Lh w N E A c M W := ⟨h1, ha.go hB, hB⟩
  have HRl := Lib.hid hr
  have cK := known14 W
  obtain ⟨k0, k1, k2⟩ := id h1
  clear ha hr h1 hB hs
  go_enter Try.func7, Try.ntmps7
  go_wp2_with fail
  rw [← hW]
  clear hW
  refine cK.mono ?_
  clear cK
  rintro e w1 ⟨rfl, hb1⟩
  have hL1 := hL.go hb1
  clear hL hb1 k0 k1 k2
  by_cases h100 : (l.length : Int) > 100
  · have hB1 := Lib.hid hL1.below
    clear hL1
    go_wp2_with fail
    go_ret
    exact ⟨rfl, hB1.out⟩
  · have d100 : decide ((l.length : Int) > 100) = false := decide_eq_false h100
    have hl100 : (l.length : Int) ≤ 100 := by omega
    clear h100
    obtain ⟨p1, hp1⟩ : ∃ p, forgetE N E M v = p := ⟨_, rfl⟩
    obtain ⟨R1, hR1⟩ : ∃ R, forgetR N E M v = R := ⟨_, rfl⟩
    obtain ⟨p2, hp2⟩ : ∃ p, keepE N E M l = p := ⟨_, rfl⟩
    obtain ⟨R2, hR2⟩ : ∃ R, keepR N E M l = R := ⟨_, rfl⟩
    have hlR1 : (R1.2.2.length : Int) ≤ 16384 := by rw [← hR1]; exact forgetR_len
    have hlR2 : (R2.2.2.length : Int) ≤ 16384 := by rw [← hR2]; exact keepR_len
    have cF := fun X (hX : Lh w N E A c M X) => order_Forget N E A c M v X hX.oin hv hma p1 hp1 R1 hR1
    have cP := fun X (hX : Lh w N E A c M X) => order_Keep N E A c M AL cL l X hX.oin ((HRl.out.below hX.below).more hX.below.size) hl (by omega) hma p2 hp2 R2 hR2
    have cC := fun X (hX : Lh w N E A c M X) => ref_Check A c N E M X hX.oin
    unfold TellsE at cF cP
    have HP1 := Lib.hid hp1
    have HP2 := Lib.hid hp2
    have HR1 := Lib.hid hR1
    have HR2 := Lib.hid hR2
    have HLi := Lib.hid hl
    clear hp1 hp2 hR1 hR2
    obtain ⟨k0, k1, k2⟩ := id hL1.box
    go_wp2_with fail
    with_reducible refine (cF _ hL1).mono ?_
    clear cF
    obtain ⟨N1, E1, M1⟩ := R1
    dsimp only at hlR1
    rintro e w2 ⟨A1, c1, rfl, ho1, hb2⟩
    dsimp only at ho1 ⊢
    obtain ⟨w3, hw3, hQ1, hb3⟩ := Oh.new (N := N1) (E := E1) ho1
    have hL3 := hL1.go (hb2.trans (hb3.mono hb2.size))
    clear hL1 hb2 hb3 ho1 k0 k1 k2
    obtain ⟨k0, k1, k2⟩ := id hL3.box
    rw [hw3] at k0 k1 k2
    go_wp2_with fail
    rw [← hw3]
    clear hw3 k0 k1 k2
    generalize w2.heap.size = b1 at *
    with_reducible refine (cP _ hL3).mono ?_
    clear cP
    obtain ⟨N2, E2, M2⟩ := R2
    dsimp only at hlR2
    rintro e w4 ⟨A2, c2, rfl, ho2, hb4⟩
    dsimp only at ho2 ⊢
    obtain ⟨w5, hw5, hQ2, hb5⟩ := Oh.new (N := N2) (E := E2) ho2
    have hb45 := hb4.trans (hb5.mono hb4.size)
    have hL5 := hL3.go hb45
    have hQ15 := hQ1.go hb45
    clear hL3 hb4 hb5 ho2 hb45 hQ1
    obtain ⟨k0, k1, k2⟩ := id hL5.box
    rw [hw5] at k0 k1 k2
    go_wp2_with fail
    rw [← hw5]
    clear hw5 k0 k1 k2
    generalize w4.heap.size = b2 at *
    generalize w1.heap.size = e1 at *
    generalize w3.heap.size = e2 at *
    with_reducible refine (cC _ hL5).mono ?_
    clear cC
    rintro e w6 ⟨rfl, hb6⟩
    have hL6 := hL5.go hb6
    have hQ16 := hQ15.go hb6
    have hQ26 := hQ2.go hb6
    clear hL5 hQ15 hQ2 hb6
    obtain ⟨x1, hx1⟩ : ∃ x, x = chk N E M := ⟨_, rfl⟩
    rw [← hx1]
    obtain ⟨k0, k1, k2⟩ := id hL6.box
    obtain ⟨m0, m1, m2⟩ := id hQ16.box
    obtain ⟨n0, n1, n2⟩ := id hQ26.box
    by_cases hx0 : x1 = 0
    · have hd : (x1 != 0) = false := bne_eq_false_iff_eq.2 hx0
      have hc : chk N E M = 0 := by rw [← hx1]; exact hx0
      clear hx0
      obtain ⟨n, rfl, hn, _⟩ := chk_zero hc
      have hP2 : p2 = if inN n l = true then 0 else 122 := by rw [← HP2.out]; unfold keepE; rw [if_neg (fun k => k hc)]
      have hR2 : (N2, E2, M2) = if inN n l = true then forgetP n E M (outOf l) else (0, false, []) := by
        rw [← HR2.out]; unfold keepR; rw [HP2.out, hP2]
        by_cases hi : inN n l = true
        · rw [if_pos hi, if_pos rfl, if_pos hi]
        · rw [if_neg hi, if_neg (by omega), if_neg hi]
      have cK := ref14_Keep n E A c M AL cL l w6 hL6.oin ((HRl.out.below hL6.below).more hL6.below.size) HLi.out (by omega) hma hc p2 hP2 (N2, E2, M2) hR2
      unfold TellsE at cK
      have HC := Lib.hid hc
      clear HP2 HR2 hP2 hR2 hx1 hc
      go_wp2_with fail
      with_reducible refine cK.mono ?_
      clear cK
      rintro e w7 ⟨A3, c3, rfl, ho3, hb7⟩
      dsimp only at ho3 ⊢
      obtain ⟨w8, hw8, hQ3, hb8⟩ := Oh.new (N := N2) (E := E2) ho3
      have hb78 := hb7.trans (hb8.mono hb7.size)
      have hL8 := hL6.go hb78
      have hQ18 := hQ16.go hb78
      have hQ28 := hQ26.go hb78
      clear hL6 hQ16 hQ26 hb7 hb8 hb78 ho3 k0 k1 k2 m0 m1 m2 n0 n1 n2
      have cM := help_Oct N2 N2 E2 E2 A2 A3 c2 c3 M2 M2 w8 hQ28.row.rd hQ3.row.rd (by omega) (by omega)
      rw [decide_eq_true ⟨rfl, rfl, rfl⟩] at cM
      have hpp : (p2 != p2) = false := bne_self_eq_false p2
      obtain ⟨n0, n1, n2⟩ := id hQ28.box
      obtain ⟨m0, m1, m2⟩ := id hQ3.box
      rw [hw8] at n0 n1 n2 m0 m1 m2
      go_wp2_with fail
      rw [← hw8]
      clear hw8 n0 n1 n2 m0 m1 m2
      generalize w7.heap.size = b3 at *
      refine cM.mono ?_
      clear cM
      rintro e w9 ⟨rfl, hb9⟩
      have hL9 := hL8.go hb9
      have hQ19 := hQ18.go hb9
      clear hL8 hQ18 hQ28 hQ3 hb9 hpp
      obtain ⟨k0, k1, k2⟩ := id hL9.box
      obtain ⟨m0, m1, m2⟩ := id hQ19.box
      by_cases hin : v < 0 ∨ v ≥ (n : Int)
      · have hE : p1 = 122 := by rw [← HP1.out]; unfold forgetE; rw [if_neg (fun k => k HC.out), if_pos hin]
        have h1 := HR1.out
        unfold forgetR at h1
        rw [if_neg (by rw [HP1.out]; omega)] at h1
        simp only [Prod.mk.injEq] at h1
        obtain ⟨rfl, rfl, rfl⟩ := h1
        subst hE
        have cM := fun X => help_Oct 0 0 false false A1 none c1 0 [] [] X Rd.zero Rd.zero (by simp) (by simp)
        rw [decide_eq_true ⟨rfl, rfl, rfl⟩] at cM
        clear HP1 HR1 HC
        by_cases hv0 : v < 0
        · go_wp2_with fail
          refine (cM _).mono ?_
          rintro e w10 ⟨rfl, hb10⟩
          have hend := Lib.hid (hL9.go hb10).below
          clear hb10 hL9 hQ19 k0 k1 k2 m0 m1 m2 cM
          go_wp2_with fail
          go_ret
          exact ⟨rfl, hend.out⟩
        · have hv1 : (n : Int) ≤ v := by omega
          clear hin
          go_wp2_with fail
          refine (cM _).mono ?_
          rintro e w10 ⟨rfl, hb10⟩
          have hend := Lib.hid (hL9.go hb10).below
          clear hb10 hL9 hQ19 k0 k1 k2 m0 m1 m2 cM
          go_wp2_with fail
          go_ret
          exact ⟨rfl, hend.out⟩
      · have hE : p1 = 0 := by rw [← HP1.out]; unfold forgetE; rw [if_neg (fun k => k HC.out), if_neg hin]
        have h1 := HR1.out
        unfold forgetR at h1
        rw [if_pos (by rw [HP1.out]; omega)] at h1
        subst hE
        obtain ⟨v, rfl⟩ : ∃ v' : Nat, v = v' := ⟨v.toNat, by omega⟩
        have hvn : v < n := by omega
        have g1 : ¬ (v : Int) < 0 := by omega
        have g2 : (v : Int) < (n : Int) := by omega
        have cF := fun X (hX : Below w9.heap.size w9 X) => ref14_Forget n E A c M v X (hL9.oin.go hX) hma HC.out hvn (N1, E1, M1) h1.symm
        have cM := fun X (hX : Below w9.heap.size w9 X) A' c' (hr' : Rd X X.heap.size .i64 A' M1.length (nth M1)) => help_Oct N1 N1 E1 E1 A1 A' c1 c' M1 M1 X (hQ19.row.below hX).rd hr' (by omega) (by omega)
        simp only [decide_eq_true (show N1 = N1 ∧ E1 = E1 ∧ M1 = M1 from ⟨rfl, rfl, rfl⟩)] at cM
        unfold TellsO at cF
        have hB9 := Lib.hid hL9.below
        have hs9 := hL9.below.size
        clear HP1 HR1 HC hin hL9 hQ19 h1
        go_upto_region 15 with fail
        go_region_held3 (fun X => X.cell? ⟨w.heap.size, 0, none⟩ = some (.int .i64 n) ∧ X.cell? ⟨w.heap.size, 1, none⟩ = some (.bool E) ∧ X.cell? ⟨w.heap.size, 2, none⟩ = some (.slice A M.length c) ∧ X.cell? ⟨b1, 0, none⟩ = some (.int .i64 N1) ∧ X.cell? ⟨b1, 1, none⟩ = some (.bool E1) ∧ X.cell? ⟨b1, 2, none⟩ = some (.slice A1 M1.length c1) ∧ Below w9.heap.size w9 X)
          (first | with_reducible assumption | with_reducible exact s7_below hbb (by with_reducible assumption) | exact ⟨k0, k1, k2, m0, m1, m2, (Below.refl _ _).drew⟩)
          (first | (go_at_call 27; have hbS := (by assumption : _ ∧ _ ∧ _ ∧ _ ∧ _ ∧ _ ∧ Below w9.heap.size w9 _).2.2.2.2.2.2; with_reducible refine (cF _ hbS).mono ?_; rintro e wF ⟨AF, cF', rfl, hoF, hbb⟩) | (go_at_call 16; have hbS := (by assumption : _ ∧ _ ∧ _ ∧ _ ∧ _ ∧ _ ∧ Below w9.heap.size w9 _).2.2.2.2.2.2; with_reducible refine (cM _ hbS _ _ hoF.rd).mono ?_; rintro e wO ⟨rfl, hbb⟩))
        have hBS := (by assumption : _ ∧ _ ∧ _ ∧ _ ∧ _ ∧ _ ∧ Below w9.heap.size w9 _).2.2.2.2.2.2
        have hend := Lib.hid (hB9.out.trans (hBS.mono hs9))
        go_wp2_with fail
        go_ret
        exact ⟨rfl, hend.out⟩
    · have hd : (x1 != 0) = true := bne_iff_ne.2 hx0
      have hc : chk N E M ≠ 0 := by rw [← hx1]; exact hx0
      have hE1 : p1 = x1 := by rw [← HP1.out, hx1]; unfold forgetE; rw [if_pos hc]
      have hE2 : p2 = x1 := by rw [← HP2.out, hx1]; unfold keepE; rw [if_pos hc]
      have h1 := HR1.out
      have h2 := HR2.out
      unfold forgetR at h1
      unfold keepR at h2
      rw [if_neg (by rw [HP1.out, hE1]; exact hx0)] at h1
      rw [if_neg (by rw [HP2.out, hE2]; exact hx0)] at h2
      simp only [Prod.mk.injEq] at h1 h2
      obtain ⟨rfl, rfl, rfl⟩ := h1
      obtain ⟨rfl, rfl, rfl⟩ := h2
      subst hE1 hE2
      have hee : (p2 == p2) = true := beq_self_eq_true p2
      have cM := fun X => help_Oct 0 0 false false A1 none c1 0 [] [] X Rd.zero Rd.zero (by simp) (by simp)
      have cN := fun X => help_Oct 0 0 false false A2 none c2 0 [] [] X Rd.zero Rd.zero (by simp) (by simp)
      rw [decide_eq_true ⟨rfl, rfl, rfl⟩] at cM cN
      clear HP1 HP2 HR1 HR2 hx0 hc hx1
      go_wp2_with fail
      refine (cM _).mono ?_
      clear cM
      rintro e w7 ⟨rfl, hb7⟩
      have hL7 := hL6.go hb7
      have hQ27 := hQ26.go hb7
      clear k0 k1 k2 m0 m1 m2 n0 n1 n2 hb7 hL6 hQ26 hQ16
      obtain ⟨n0, n1, n2⟩ := id hQ27.box
      go_wp2_with fail
      refine (cN _).mono ?_
      clear cN
      rintro e w8 ⟨rfl, hb8⟩
      have hend := Lib.hid (hL7.go hb8).below
      clear hb8 n0 n1 n2 hL7 hQ27
      go_wp2_with fail
      go_ret
      exact ⟨rfl, hend.out⟩
end Go.Proofs.Ytkgddgckilledaa
