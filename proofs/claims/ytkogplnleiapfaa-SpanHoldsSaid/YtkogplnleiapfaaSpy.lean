/- The walks of span.Mul and of gnomonref15.Mul. -/
import Derived.Test.YtkogplnleiapfaaSpx
namespace Go.Proofs.Ytkogplnleiapfaa
open Go.RowKit
set_option linter.unusedVariables false
set_option linter.unusedSimpArgs false
open Gn
theorem near_mul {x y : Int} (h1 : nearB x = true) (h2 : nearB y = true) : -1152921504606846976 ≤ x * y ∧ x * y ≤ 1152921504606846976 := by
  rw [nearB_iff] at h1 h2
  have := mul_between h1.1 h1.2 h2.1 h2.2
  omega
theorem run_min4 {P : Program} (ts : Array TypeId) (t : TypeId) (a b c d : Int) (X : World) : (Builtin.min_ ts t #[.int .i64 a, .int .i64 b, .int .i64 c, .int .i64 d]).run P X = .ok (.int .i64 (min (min a b) (min c d))) X := by
  have e : (if d < (if c < (if b < a then b else a) then c else (if b < a then b else a)) then d else (if c < (if b < a then b else a) then c else (if b < a then b else a))) = min (min a b) (min c d) := by
    repeat' split
    all_goals omega
  simp [Builtin.min_, Builtin.min2]
  rw [e]; omega
theorem run_max4 {P : Program} (ts : Array TypeId) (t : TypeId) (a b c d : Int) (X : World) : (Builtin.max_ ts t #[.int .i64 a, .int .i64 b, .int .i64 c, .int .i64 d]).run P X = .ok (.int .i64 (max (max a b) (max c d))) X := by
  have e : (if (if (if a < b then b else a) < c then c else (if a < b then b else a)) < d then d else (if (if a < b then b else a) < c then c else (if a < b then b else a))) = max (max a b) (max c d) := by
    repeat' split
    all_goals omega
  simp [Builtin.max_, Builtin.max2]
  rw [e]; omega
theorem below_put4 {w X : World} (hL : Below w.heap.size w X) (v0 v1 v2 v3 : Value) : Below w.heap.size w ((((X.setCell ⟨w.heap.size + 1 + 1, 0, none⟩ v0).setCell ⟨w.heap.size + 1 + 1, 1, none⟩ v1).setCell ⟨w.heap.size + 1 + 1, 2, none⟩ v2).setCell ⟨w.heap.size + 1 + 1, 3, none⟩ v3) :=
  have h : w.heap.size ≤ w.heap.size + 1 + 1 := by omega
  (((hL.setCell h _).setCell h _).setCell h _).setCell h _
set_option maxHeartbeats 8000000 in
theorem ref15_Mul (a b : Rg) (w : World) :
    Calls Try.prog 48 #[.agg #[.int .i64 a.lo, .int .i64 a.hi, .bool a.hl, .bool a.hh], .agg #[.int .i64 b.lo, .int .i64 b.hi, .bool b.hl, .bool b.hh]] w fun e w' => e = .returned (.agg #[.int .i64 (mulR a b).lo, .int .i64 (mulR a b).hi, .bool (mulR a b).hl, .bool (mulR a b).hh]) ∧ Below w.heap.size w w' := by
  obtain ⟨l, h, p, q⟩ := a
  obtain ⟨l', h', p', q'⟩ := b
  obtain ⟨R, hR⟩ : ∃ R, R = mulR ⟨l, h, p, q⟩ ⟨l', h', p', q'⟩ := ⟨_, rfl⟩
  rw [← hR]
  obtain ⟨W, hW, hA, hB, hC, hL⟩ := rg3 w 50 l h p q l' h' p' q'
  have c1 := fun X => ref15_near l X
  have c2 := fun X => ref15_near h X
  have c3 := fun X => ref15_near l' X
  have c4 := fun X => ref15_near h' X
  have m1 := @near_mul l l'
  have m2 := @near_mul l h'
  have m3 := @near_mul h l'
  have m4 := @near_mul h h'
  dsimp only at *
  have HR := Lib.hid (show R = if (p && (q && (p' && (q' && (nearB l && (nearB h && (nearB l' && nearB h'))))))) = true then ⟨min (min (l * l') (l * h')) (min (h * l') (h * h')), max (max (l * l') (l * h')) (max (h * l') (h * h')), true, true⟩ else Rg.none by rw [hR]; rfl)
  clear hR
  generalize nearB l = n1 at *
  generalize nearB h = n2 at *
  generalize nearB l' = n3 at *
  generalize nearB h' = n4 at *
  have HM : Hid (n1 = true → n2 = true → n3 = true → n4 = true → (-1152921504606846976 ≤ l * l' ∧ l * l' ≤ 1152921504606846976) ∧ (-1152921504606846976 ≤ l * h' ∧ l * h' ≤ 1152921504606846976) ∧ (-1152921504606846976 ≤ h * l' ∧ h * l' ≤ 1152921504606846976) ∧ (-1152921504606846976 ≤ h * h' ∧ h * h' ≤ 1152921504606846976)) := Lib.hid (fun a b c d => ⟨m1 a c, m2 a d, m3 b c, m4 b d⟩)
  clear m1 m2 m3 m4
  obtain ⟨k0, k1, k2, k3, kf⟩ := hA
  obtain ⟨l0, l1, l2, l3, lf⟩ := hB
  obtain ⟨m0, m1, m2, m3, mf⟩ := id hC
  go_enter Try.func48, Try.ntmps48
  rw [hW] at k0 k1 k2 k3 l0 l1 l2 l3 m0 m1 m2 m3 kf lf mf
  cases p
  · skip
    have HF := Lib.hid (show R = ⟨0, 0, false, false⟩ by rw [HR.out]; rfl)
    clear HR HM
    go_wp2_with (first | (go_at_call 91; with_reducible refine (c1 _).mono ?_; rintro e w' ⟨rfl, rfl⟩) | (go_at_call 91; with_reducible refine (c2 _).mono ?_; rintro e w' ⟨rfl, rfl⟩) | (go_at_call 91; with_reducible refine (c3 _).mono ?_; rintro e w' ⟨rfl, rfl⟩) | (go_at_call 91; with_reducible refine (c4 _).mono ?_; rintro e w' ⟨rfl, rfl⟩))
    rw [← hW]
    rw [← hW] at k0 k1 k2 k3 l0 l1 l2 l3 m0 m1 m2 m3 kf lf mf
    clear hW
    refine bodyPost_ret (v := .agg #[.int .i64 0, .int .i64 0, .bool false, .bool false]) (by simp [results, Try.results48, go_sem, m0, m1, m2, m3]) rfl ⟨retR HF.out, ?_⟩
    exact hL
  · skip
    cases q
    · skip
      have HF := Lib.hid (show R = ⟨0, 0, false, false⟩ by rw [HR.out]; rfl)
      clear HR HM
      go_wp2_with (first | (go_at_call 91; with_reducible refine (c1 _).mono ?_; rintro e w' ⟨rfl, rfl⟩) | (go_at_call 91; with_reducible refine (c2 _).mono ?_; rintro e w' ⟨rfl, rfl⟩) | (go_at_call 91; with_reducible refine (c3 _).mono ?_; rintro e w' ⟨rfl, rfl⟩) | (go_at_call 91; with_reducible refine (c4 _).mono ?_; rintro e w' ⟨rfl, rfl⟩))
      rw [← hW]
      rw [← hW] at k0 k1 k2 k3 l0 l1 l2 l3 m0 m1 m2 m3 kf lf mf
      clear hW
      refine bodyPost_ret (v := .agg #[.int .i64 0, .int .i64 0, .bool false, .bool false]) (by simp [results, Try.results48, go_sem, m0, m1, m2, m3]) rfl ⟨retR HF.out, ?_⟩
      exact hL
    · skip
      cases p'
      · skip
        have HF := Lib.hid (show R = ⟨0, 0, false, false⟩ by rw [HR.out]; rfl)
        clear HR HM
        go_wp2_with (first | (go_at_call 91; with_reducible refine (c1 _).mono ?_; rintro e w' ⟨rfl, rfl⟩) | (go_at_call 91; with_reducible refine (c2 _).mono ?_; rintro e w' ⟨rfl, rfl⟩) | (go_at_call 91; with_reducible refine (c3 _).mono ?_; rintro e w' ⟨rfl, rfl⟩) | (go_at_call 91; with_reducible refine (c4 _).mono ?_; rintro e w' ⟨rfl, rfl⟩))
        rw [← hW]
        rw [← hW] at k0 k1 k2 k3 l0 l1 l2 l3 m0 m1 m2 m3 kf lf mf
        clear hW
        refine bodyPost_ret (v := .agg #[.int .i64 0, .int .i64 0, .bool false, .bool false]) (by simp [results, Try.results48, go_sem, m0, m1, m2, m3]) rfl ⟨retR HF.out, ?_⟩
        exact hL
      · skip
        cases q'
        · skip
          have HF := Lib.hid (show R = ⟨0, 0, false, false⟩ by rw [HR.out]; rfl)
          clear HR HM
          go_wp2_with (first | (go_at_call 91; with_reducible refine (c1 _).mono ?_; rintro e w' ⟨rfl, rfl⟩) | (go_at_call 91; with_reducible refine (c2 _).mono ?_; rintro e w' ⟨rfl, rfl⟩) | (go_at_call 91; with_reducible refine (c3 _).mono ?_; rintro e w' ⟨rfl, rfl⟩) | (go_at_call 91; with_reducible refine (c4 _).mono ?_; rintro e w' ⟨rfl, rfl⟩))
          rw [← hW]
          rw [← hW] at k0 k1 k2 k3 l0 l1 l2 l3 m0 m1 m2 m3 kf lf mf
          clear hW
          refine bodyPost_ret (v := .agg #[.int .i64 0, .int .i64 0, .bool false, .bool false]) (by simp [results, Try.results48, go_sem, m0, m1, m2, m3]) rfl ⟨retR HF.out, ?_⟩
          exact hL
        · skip
          cases n1
          · skip
            have HF := Lib.hid (show R = ⟨0, 0, false, false⟩ by rw [HR.out]; rfl)
            clear HR HM
            go_wp2_with (first | (go_at_call 91; with_reducible refine (c1 _).mono ?_; rintro e w' ⟨rfl, rfl⟩) | (go_at_call 91; with_reducible refine (c2 _).mono ?_; rintro e w' ⟨rfl, rfl⟩) | (go_at_call 91; with_reducible refine (c3 _).mono ?_; rintro e w' ⟨rfl, rfl⟩) | (go_at_call 91; with_reducible refine (c4 _).mono ?_; rintro e w' ⟨rfl, rfl⟩))
            rw [← hW]
            rw [← hW] at k0 k1 k2 k3 l0 l1 l2 l3 m0 m1 m2 m3 kf lf mf
            clear hW
            refine bodyPost_ret (v := .agg #[.int .i64 0, .int .i64 0, .bool false, .bool false]) (by simp [results, Try.results48, go_sem, m0, m1, m2, m3]) rfl ⟨retR HF.out, ?_⟩
            exact hL
          · skip
            cases n2
            · skip
              have HF := Lib.hid (show R = ⟨0, 0, false, false⟩ by rw [HR.out]; rfl)
              clear HR HM
              go_wp2_with (first | (go_at_call 91; with_reducible refine (c1 _).mono ?_; rintro e w' ⟨rfl, rfl⟩) | (go_at_call 91; with_reducible refine (c2 _).mono ?_; rintro e w' ⟨rfl, rfl⟩) | (go_at_call 91; with_reducible refine (c3 _).mono ?_; rintro e w' ⟨rfl, rfl⟩) | (go_at_call 91; with_reducible refine (c4 _).mono ?_; rintro e w' ⟨rfl, rfl⟩))
              rw [← hW]
              rw [← hW] at k0 k1 k2 k3 l0 l1 l2 l3 m0 m1 m2 m3 kf lf mf
              clear hW
              refine bodyPost_ret (v := .agg #[.int .i64 0, .int .i64 0, .bool false, .bool false]) (by simp [results, Try.results48, go_sem, m0, m1, m2, m3]) rfl ⟨retR HF.out, ?_⟩
              exact hL
            · skip
              cases n3
              · skip
                have HF := Lib.hid (show R = ⟨0, 0, false, false⟩ by rw [HR.out]; rfl)
                clear HR HM
                go_wp2_with (first | (go_at_call 91; with_reducible refine (c1 _).mono ?_; rintro e w' ⟨rfl, rfl⟩) | (go_at_call 91; with_reducible refine (c2 _).mono ?_; rintro e w' ⟨rfl, rfl⟩) | (go_at_call 91; with_reducible refine (c3 _).mono ?_; rintro e w' ⟨rfl, rfl⟩) | (go_at_call 91; with_reducible refine (c4 _).mono ?_; rintro e w' ⟨rfl, rfl⟩))
                rw [← hW]
                rw [← hW] at k0 k1 k2 k3 l0 l1 l2 l3 m0 m1 m2 m3 kf lf mf
                clear hW
                refine bodyPost_ret (v := .agg #[.int .i64 0, .int .i64 0, .bool false, .bool false]) (by simp [results, Try.results48, go_sem, m0, m1, m2, m3]) rfl ⟨retR HF.out, ?_⟩
                exact hL
              · skip
                cases n4
                · skip
                  have HF := Lib.hid (show R = ⟨0, 0, false, false⟩ by rw [HR.out]; rfl)
                  clear HR HM
                  go_wp2_with (first | (go_at_call 91; with_reducible refine (c1 _).mono ?_; rintro e w' ⟨rfl, rfl⟩) | (go_at_call 91; with_reducible refine (c2 _).mono ?_; rintro e w' ⟨rfl, rfl⟩) | (go_at_call 91; with_reducible refine (c3 _).mono ?_; rintro e w' ⟨rfl, rfl⟩) | (go_at_call 91; with_reducible refine (c4 _).mono ?_; rintro e w' ⟨rfl, rfl⟩))
                  rw [← hW]
                  rw [← hW] at k0 k1 k2 k3 l0 l1 l2 l3 m0 m1 m2 m3 kf lf mf
                  clear hW
                  refine bodyPost_ret (v := .agg #[.int .i64 0, .int .i64 0, .bool false, .bool false]) (by simp [results, Try.results48, go_sem, m0, m1, m2, m3]) rfl ⟨retR HF.out, ?_⟩
                  exact hL
                · skip
                  have HF := Lib.hid (show R = ⟨min (min (l * l') (l * h')) (min (h * l') (h * h')), max (max (l * l') (l * h')) (max (h * l') (h * h')), true, true⟩ by rw [HR.out]; rfl)
                  obtain ⟨⟨u1, u2⟩, ⟨u3, u4⟩, ⟨u5, u6⟩, u7, u8⟩ := HM.out rfl rfl rfl rfl
                  clear HR HM
                  have e1 : wrap64 (l * l') = l * l' := wrap64_eq ⟨by omega, by omega⟩
                  have e2 : wrap64 (l * h') = l * h' := wrap64_eq ⟨by omega, by omega⟩
                  have e3 : wrap64 (h * l') = h * l' := wrap64_eq ⟨by omega, by omega⟩
                  have e4 : wrap64 (h * h') = h * h' := wrap64_eq ⟨by omega, by omega⟩
                  go_wp2_with (first | (go_at_call 91; with_reducible refine (c1 _).mono ?_; rintro e w' ⟨rfl, rfl⟩) | (go_at_call 91; with_reducible refine (c2 _).mono ?_; rintro e w' ⟨rfl, rfl⟩) | (go_at_call 91; with_reducible refine (c3 _).mono ?_; rintro e w' ⟨rfl, rfl⟩) | (go_at_call 91; with_reducible refine (c4 _).mono ?_; rintro e w' ⟨rfl, rfl⟩))
                  rw [← hW]
                  rw [← hW] at k0 k1 k2 k3 l0 l1 l2 l3 m0 m1 m2 m3 kf lf mf
                  clear hW c1 c2 c3 c4
                  have a0 := After.cell k0
                  have a1 := After.cell k1
                  have a2 := After.cell l0
                  have a3 := After.cell l1
                  refine wp_region_after (by kernel_rfl) (by kernel_rfl) ?_
                  repeat (go_big_quiet_step (fail))
                  refine wpQuiet_nil ?_
                  intro w2 hb
                  clear a0 a1 a2 a3
                  replace hL := hL.trans (hb.mono hL.size)
                  have m0 := below_cell hb m0
                  have m1 := below_cell hb m1
                  have m2 := below_cell hb m2
                  have m3 := below_cell hb m3
                  have mf : ∀ i, w2.frozen? ⟨w.heap.size + 1 + 1, i, none⟩ = false := fun i => (hb.frozen (p := ⟨w.heap.size + 1 + 1, i, none⟩) hC.lt).trans (mf i)
                  clear hb
                  clear e1 e2 e3 e4 u1 u2 u3 u4 u5 u6 u7 u8
                  generalize l * l' = x1 at *
                  generalize l * h' = x2 at *
                  generalize h * l' = x3 at *
                  generalize h * h' = x4 at *
                  have f1 := fun ts t X => run_min4 (P := Try.prog) ts t x1 x2 x3 x4 X
                  have f2 := fun ts t X => run_max4 (P := Try.prog) ts t x1 x2 x3 x4 X
                  generalize min (min x1 x2) (min x3 x4) = y1 at *
                  generalize max (max x1 x2) (max x3 x4) = y2 at *
                  go_wp2_with fail
                  refine bodyPost_ret (v := .agg #[.int .i64 y1, .int .i64 y2, .bool true, .bool true]) (by simp [results, Try.results48, go_sem, m0, m1, m2, m3]) rfl ⟨retR HF.out, ?_⟩
                  exact below_put4 hL _ _ _ _
-- span.Mul
/-- The four ends in memory. -/
structure Arr8 (w : World) (b : Nat) (l : Int) (p : Bool) (h : Int) (q : Bool) (l' : Int) (p' : Bool) (h' : Int) (q' : Bool) : Prop where
  c0 : w.cell? ⟨b, 0, none⟩ = some (.int .i64 l)
  c1 : w.cell? ⟨b, 1, none⟩ = some (.bool p)
  c2 : w.cell? ⟨b, 2, none⟩ = some (.int .i64 h)
  c3 : w.cell? ⟨b, 3, none⟩ = some (.bool q)
  c4 : w.cell? ⟨b, 4, none⟩ = some (.int .i64 l')
  c5 : w.cell? ⟨b, 5, none⟩ = some (.bool p')
  c6 : w.cell? ⟨b, 6, none⟩ = some (.int .i64 h')
  c7 : w.cell? ⟨b, 7, none⟩ = some (.bool q')
  fz : ∀ i, w.frozen? ⟨b, i, none⟩ = false
theorem Arr8.lt {w : World} {b : Nat} {l h l' h' : Int} {p q p' q' : Bool} (k : Arr8 w b l p h q l' p' h' q') : b < w.heap.size := World.block_lt_of_cell? w ⟨b, 0, none⟩ k.c0
theorem Arr8.go {w w' : World} {b : Nat} {l h l' h' : Int} {p q p' q' : Bool} (k : Arr8 w b l p h q l' p' h' q') (hb : Below w.heap.size w w') : Arr8 w' b l p h q l' p' h' q' :=
  ⟨below_cell hb k.c0, below_cell hb k.c1, below_cell hb k.c2, below_cell hb k.c3, below_cell hb k.c4, below_cell hb k.c5, below_cell hb k.c6, below_cell hb k.c7, fun i => below_frozen hb k.c0 (k.fz i)⟩
theorem Arr8.new (w : World) (t : TypeId) (l h l' h' : Int) (p q p' q' : Bool) : Arr8 (w.alloc (.cells #[.int .i64 l, .bool p, .int .i64 h, .bool q, .int .i64 l', .bool p', .int .i64 h', .bool q'] t)) w.heap.size l p h q l' p' h' q' :=
  ⟨by simp [World.cell?_alloc_new], by simp [World.cell?_alloc_new], by simp [World.cell?_alloc_new], by simp [World.cell?_alloc_new], by simp [World.cell?_alloc_new], by simp [World.cell?_alloc_new], by simp [World.cell?_alloc_new], by simp [World.cell?_alloc_new], fun i => by simp [go_sem]⟩
/-- On the way of Mul. -/
structure Mu (w W : World) (b5 : Nat) (l h l' h' : Int) (p q p' q' : Bool) : Prop where
  arr : Arr8 W b5 l p h q l' p' h' q'
  r : RgBox W (w.heap.size + 1 + 1) 0 0 false false
  below : Below w.heap.size w W
theorem Mu.go {w W W' : World} {b5 : Nat} {l h l' h' : Int} {p q p' q' : Bool} (k : Mu w W b5 l h l' h' p q p' q') (hb : Below W.heap.size W W') : Mu w W' b5 l h l' h' p q p' q' :=
  ⟨k.arr.go hb, k.r.go hb, k.below.trans (hb.mono k.below.size)⟩
theorem Mu.new {w W : World} {b5 : Nat} {l h l' h' : Int} {p q p' q' : Bool} (k : Mu w W b5 l h l' h' p q p' q') (n : Int) (x : Bool) : Mu w (W.alloc (.cells #[.int .i64 n, .bool x] 99)) b5 l h l' h' p q p' q' :=
  k.go ((Below.refl _ _).alloc (Nat.le_refl _) _)
theorem Mu.start {w X : World} {b5 : Nat} (k : Arr8 X b5 0 false 0 false 0 false 0 false) (r : RgBox X (w.heap.size + 1 + 1) 0 0 false false) (hL : Below w.heap.size w X) (hlt : w.heap.size + 1 + 1 < b5) (l h l' h' : Int) (p q p' q' : Bool) :
    Mu w ((((((((X.setCell ⟨b5, 0, none⟩ (.int .i64 l)).setCell ⟨b5, 1, none⟩ (.bool p)).setCell ⟨b5, 2, none⟩ (.int .i64 h)).setCell ⟨b5, 3, none⟩ (.bool q)).setCell ⟨b5, 4, none⟩ (.int .i64 l')).setCell ⟨b5, 5, none⟩ (.bool p')).setCell ⟨b5, 6, none⟩ (.int .i64 h')).setCell ⟨b5, 7, none⟩ (.bool q')) b5 l h l' h' p q p' q' := by
  have n1 : ¬ w.heap.size + 1 + 1 = b5 := by omega
  have n2 : w.heap.size ≤ b5 := by omega
  obtain ⟨g0, g1, g2, g3, g4, g5, g6, g7, gf⟩ := k
  obtain ⟨r0, r1, r2, r3, rf⟩ := r
  refine ⟨⟨?_, ?_, ?_, ?_, ?_, ?_, ?_, ?_, fun i => ?_⟩, ⟨?_, ?_, ?_, ?_, fun i => ?_⟩, ?_⟩
  all_goals first | (simp [go_sem, g0, g1, g2, g3, g4, g5, g6, g7, gf]; done) | (simp [go_sem, r0, r1, r2, r3, rf, n1]; done) | exact (((((((hL.setCell n2 _).setCell n2 _).setCell n2 _).setCell n2 _).setCell n2 _).setCell n2 _).setCell n2 _).setCell n2 _
/-- What each operation of '[...]end{lo(a), hi(a), lo(b), hi(b)}' yields. -/
def mulQ (wb : Nat) (l h : Int) (p q : Bool) (l' h' : Int) (p' q' : Bool) : Nat → Value → World → Prop
  | 0, v, _ => v = .agg #[.int .i64 l, .int .i64 h, .bool p, .bool q]
  | 1, v, _ => v = .agg #[.int .i64 l, .bool p]
  | 2, v, _ => v = .agg #[.int .i64 l, .int .i64 h, .bool p, .bool q]
  | 3, v, _ => v = .agg #[.int .i64 h, .bool q]
  | 4, v, _ => v = .agg #[.int .i64 l', .int .i64 h', .bool p', .bool q']
  | 5, v, _ => v = .agg #[.int .i64 l', .bool p']
  | 6, v, _ => v = .agg #[.int .i64 l', .int .i64 h', .bool p', .bool q']
  | 7, v, _ => v = .agg #[.int .i64 h', .bool q']
  | 8, v, _ => v = .agg #[.int .i64 l, .bool p, .int .i64 h, .bool q, .int .i64 l', .bool p', .int .i64 h', .bool q']
  | _, v, w => ∃ b, v = .pointer (some ⟨b, 0, none⟩) ∧ wb ≤ b ∧ Arr8 w b 0 false 0 false 0 false 0 false
theorem mulQ_below {wb : Nat} {l h : Int} {p q : Bool} {l' h' : Int} {p' q' : Bool} (i : Nat) (v : Value) (w w' : World) (k : mulQ wb l h p q l' h' p' q' i v w) (hb : Below w.heap.size w w') : mulQ wb l h p q l' h' p' q' i v w' := by
  match i, k with
  | 0, k => exact k
  | 1, k => exact k
  | 2, k => exact k
  | 3, k => exact k
  | 4, k => exact k
  | 5, k => exact k
  | 6, k => exact k
  | 7, k => exact k
  | 8, k => exact k
  | i + 9, ⟨b, h1, h2, h3⟩ => exact ⟨b, h1, h2, h3.go hb⟩
/-- Nothing is asked of two values. -/
def noP (_ : Nat) (_ : Value) (_ : Nat) (_ : Value) : Prop := True
set_option maxRecDepth 100000 in
set_option maxHeartbeats 16000000 in
theorem span_Mul (a b : Rg) (w : World) :
    Calls Try.prog 47 #[.agg #[.int .i64 a.lo, .int .i64 a.hi, .bool a.hl, .bool a.hh], .agg #[.int .i64 b.lo, .int .i64 b.hi, .bool b.hl, .bool b.hh]] w fun e w' => e = .returned (.agg #[.int .i64 (mulR a b).lo, .int .i64 (mulR a b).hi, .bool (mulR a b).hl, .bool (mulR a b).hh]) ∧ Below w.heap.size w w' := by
  obtain ⟨l, h, p, q⟩ := a
  obtain ⟨l', h', p', q'⟩ := b
  obtain ⟨R, hR⟩ : ∃ R, R = mulR ⟨l, h, p, q⟩ ⟨l', h', p', q'⟩ := ⟨_, rfl⟩
  rw [← hR]
  obtain ⟨W, hW, hA, hB, hC, hL⟩ := rg3 w 50 l h p q l' h' p' q'
  have c1 := fun X => end_near l p X
  have c2 := fun X => end_near h q X
  have c3 := fun X => end_near l' p' X
  have c4 := fun X => end_near h' q' X
  have m1 := @near_mul l l'
  have m2 := @near_mul l h'
  have m3 := @near_mul h l'
  have m4 := @near_mul h h'
  dsimp only at *
  have HR := Lib.hid (show R = if (p && (q && (p' && (q' && (nearB l && (nearB h && (nearB l' && nearB h'))))))) = true then ⟨min (min (l * l') (l * h')) (min (h * l') (h * h')), max (max (l * l') (l * h')) (max (h * l') (h * h')), true, true⟩ else Rg.none by rw [hR]; rfl)
  clear hR
  generalize nearB l = n1 at *
  generalize nearB h = n2 at *
  generalize nearB l' = n3 at *
  generalize nearB h' = n4 at *
  have HM : Hid (n1 = true → n2 = true → n3 = true → n4 = true → (-1152921504606846976 ≤ l * l' ∧ l * l' ≤ 1152921504606846976) ∧ (-1152921504606846976 ≤ l * h' ∧ l * h' ≤ 1152921504606846976) ∧ (-1152921504606846976 ≤ h * l' ∧ h * l' ≤ 1152921504606846976) ∧ (-1152921504606846976 ≤ h * h' ∧ h * h' ≤ 1152921504606846976)) := Lib.hid (fun a b c d => ⟨m1 a c, m2 a d, m3 b c, m4 b d⟩)
  clear m1 m2 m3 m4
  go_enter Try.func47, Try.ntmps47
  go_wp2_with fail
  rw [← hW]
  clear hW
  obtain ⟨k0, k1, k2, k3, kf⟩ := id hA
  obtain ⟨l0, l1, l2, l3, lf⟩ := id hB
  refine wp_region_loose 10 (fun i => match i with | 0 => 14 | 1 => 15 | 2 => 16 | 3 => 17 | 4 => 18 | 5 => 19 | 6 => 20 | 7 => 21 | 8 => 22 | _ => 5) (mulQ W.heap.size l h p q l' h' p' q') noP #[true, true, true, true, true, true, true, true, true, true, false] (by kernel_rfl) (by kernel_rfl) mulQ_below ?hd ?hi ?hop ?hend
  case hd => intro i hi; rcases (show i = 0 ∨ i = 1 ∨ i = 2 ∨ i = 3 ∨ i = 4 ∨ i = 5 ∨ i = 6 ∨ i = 7 ∨ i = 8 ∨ i = 9 by omega) with rfl | rfl | rfl | rfl | rfl | rfl | rfl | rfl | rfl | rfl <;> simp
  case hi =>
    intro i j hi hj hij h
    rcases (show i = 0 ∨ i = 1 ∨ i = 2 ∨ i = 3 ∨ i = 4 ∨ i = 5 ∨ i = 6 ∨ i = 7 ∨ i = 8 ∨ i = 9 by omega) with rfl | rfl | rfl | rfl | rfl | rfl | rfl | rfl | rfl | rfl <;> rcases (show j = 0 ∨ j = 1 ∨ j = 2 ∨ j = 3 ∨ j = 4 ∨ j = 5 ∨ j = 6 ∨ j = 7 ∨ j = 8 ∨ j = 9 by omega) with rfl | rfl | rfl | rfl | rfl | rfl | rfl | rfl | rfl | rfl <;> first | exact absurd rfl hij | exact absurd h (by decide)
  case hop =>
    intro i o hi ho
    rcases (show i = 0 ∨ i = 1 ∨ i = 2 ∨ i = 3 ∨ i = 4 ∨ i = 5 ∨ i = 6 ∨ i = 7 ∨ i = 8 ∨ i = 9 by omega) with rfl | rfl | rfl | rfl | rfl | rfl | rfl | rfl | rfl | rfl
    · injection ho with ho
      subst ho
      refine ⟨fun _ => rfl, fun a' X hX hsz hdf hrest hdep => ?_⟩
      have e2 : a'.tmps[2]? = some (.pointer (some ⟨w.heap.size, 0, none⟩)) := hrest 2 (by decide)
      have g0 := below_cell hX k0
      have g1 := below_cell hX k1
      have g2 := below_cell hX k2
      have g3 := below_cell hX k3
      simp [Oper.wp, execOp, Act.eval, e2, go_sem, g0, g1, g2, g3]
      exact ⟨_, rfl, Below.refl _ _, rfl, fun _ _ _ _ _ => ⟨trivial, trivial⟩⟩
    · injection ho with ho
      subst ho
      refine ⟨fun _ => rfl, fun a' X hX hsz hdf hrest hdep => ?_⟩
      obtain ⟨v, e5, hv⟩ := hdep ⟨0, Ground.data⟩ (by simp) rfl
      have hv : v = .agg #[.int .i64 l, .int .i64 h, .bool p, .bool q] := hv
      have e5 : a'.tmps[14]? = some v := e5
      subst hv
      simp [Oper.wp, execOp, Act.eval, e5, go_sem]
      refine (span_lo l h p q X).mono ?_
      rintro e X' ⟨rfl, hb⟩
      exact ⟨_, rfl, hb, rfl, fun _ _ _ _ _ => ⟨trivial, trivial⟩⟩
    · injection ho with ho
      subst ho
      refine ⟨fun _ => rfl, fun a' X hX hsz hdf hrest hdep => ?_⟩
      have e2 : a'.tmps[2]? = some (.pointer (some ⟨w.heap.size, 0, none⟩)) := hrest 2 (by decide)
      have g0 := below_cell hX k0
      have g1 := below_cell hX k1
      have g2 := below_cell hX k2
      have g3 := below_cell hX k3
      simp [Oper.wp, execOp, Act.eval, e2, go_sem, g0, g1, g2, g3]
      exact ⟨_, rfl, Below.refl _ _, rfl, fun _ _ _ _ _ => ⟨trivial, trivial⟩⟩
    · injection ho with ho
      subst ho
      refine ⟨fun _ => rfl, fun a' X hX hsz hdf hrest hdep => ?_⟩
      obtain ⟨v, e5, hv⟩ := hdep ⟨2, Ground.data⟩ (by simp) rfl
      have hv : v = .agg #[.int .i64 l, .int .i64 h, .bool p, .bool q] := hv
      have e5 : a'.tmps[16]? = some v := e5
      subst hv
      simp [Oper.wp, execOp, Act.eval, e5, go_sem]
      refine (span_hi l h p q X).mono ?_
      rintro e X' ⟨rfl, hb⟩
      exact ⟨_, rfl, hb, rfl, fun _ _ _ _ _ => ⟨trivial, trivial⟩⟩
    · injection ho with ho
      subst ho
      refine ⟨fun _ => rfl, fun a' X hX hsz hdf hrest hdep => ?_⟩
      have e2 : a'.tmps[3]? = some (.pointer (some ⟨w.heap.size + 1, 0, none⟩)) := hrest 3 (by decide)
      have g0 := below_cell hX l0
      have g1 := below_cell hX l1
      have g2 := below_cell hX l2
      have g3 := below_cell hX l3
      simp [Oper.wp, execOp, Act.eval, e2, go_sem, g0, g1, g2, g3]
      exact ⟨_, rfl, Below.refl _ _, rfl, fun _ _ _ _ _ => ⟨trivial, trivial⟩⟩
    · injection ho with ho
      subst ho
      refine ⟨fun _ => rfl, fun a' X hX hsz hdf hrest hdep => ?_⟩
      obtain ⟨v, e5, hv⟩ := hdep ⟨4, Ground.data⟩ (by simp) rfl
      have hv : v = .agg #[.int .i64 l', .int .i64 h', .bool p', .bool q'] := hv
      have e5 : a'.tmps[18]? = some v := e5
      subst hv
      simp [Oper.wp, execOp, Act.eval, e5, go_sem]
      refine (span_lo l' h' p' q' X).mono ?_
      rintro e X' ⟨rfl, hb⟩
      exact ⟨_, rfl, hb, rfl, fun _ _ _ _ _ => ⟨trivial, trivial⟩⟩
    · injection ho with ho
      subst ho
      refine ⟨fun _ => rfl, fun a' X hX hsz hdf hrest hdep => ?_⟩
      have e2 : a'.tmps[3]? = some (.pointer (some ⟨w.heap.size + 1, 0, none⟩)) := hrest 3 (by decide)
      have g0 := below_cell hX l0
      have g1 := below_cell hX l1
      have g2 := below_cell hX l2
      have g3 := below_cell hX l3
      simp [Oper.wp, execOp, Act.eval, e2, go_sem, g0, g1, g2, g3]
      exact ⟨_, rfl, Below.refl _ _, rfl, fun _ _ _ _ _ => ⟨trivial, trivial⟩⟩
    · injection ho with ho
      subst ho
      refine ⟨fun _ => rfl, fun a' X hX hsz hdf hrest hdep => ?_⟩
      obtain ⟨v, e5, hv⟩ := hdep ⟨6, Ground.data⟩ (by simp) rfl
      have hv : v = .agg #[.int .i64 l', .int .i64 h', .bool p', .bool q'] := hv
      have e5 : a'.tmps[20]? = some v := e5
      subst hv
      simp [Oper.wp, execOp, Act.eval, e5, go_sem]
      refine (span_hi l' h' p' q' X).mono ?_
      rintro e X' ⟨rfl, hb⟩
      exact ⟨_, rfl, hb, rfl, fun _ _ _ _ _ => ⟨trivial, trivial⟩⟩
    · injection ho with ho
      subst ho
      refine ⟨fun _ => rfl, fun a' X hX hsz hdf hrest hdep => ?_⟩
      obtain ⟨v0, e0, hv0⟩ := hdep ⟨1, Ground.data⟩ (by simp) rfl
      have hv0 : v0 = .agg #[.int .i64 l, .bool p] := hv0
      have e0 : a'.tmps[15]? = some v0 := e0
      subst hv0
      obtain ⟨v1, e1, hv1⟩ := hdep ⟨3, Ground.data⟩ (by simp) rfl
      have hv1 : v1 = .agg #[.int .i64 h, .bool q] := hv1
      have e1 : a'.tmps[17]? = some v1 := e1
      subst hv1
      obtain ⟨v2, e2, hv2⟩ := hdep ⟨5, Ground.data⟩ (by simp) rfl
      have hv2 : v2 = .agg #[.int .i64 l', .bool p'] := hv2
      have e2 : a'.tmps[19]? = some v2 := e2
      subst hv2
      obtain ⟨v3, e3, hv3⟩ := hdep ⟨7, Ground.data⟩ (by simp) rfl
      have hv3 : v3 = .agg #[.int .i64 h', .bool q'] := hv3
      have e3 : a'.tmps[21]? = some v3 := e3
      subst hv3
      simp [Oper.wp, execOp, Act.eval, e0, e1, e2, e3, go_sem]
      exact ⟨_, rfl, Below.refl _ _, rfl, fun _ _ _ _ _ => ⟨trivial, trivial⟩⟩
    · injection ho with ho
      subst ho
      refine ⟨fun _ => rfl, fun a' X hX hsz hdf hrest hdep => ?_⟩
      simp [Oper.wp, execOp, Act.eval, go_sem]
      exact ⟨_, rfl, (Below.refl _ _).alloc (Nat.le_refl _) _, ⟨X.heap.size, rfl, hX.size, Arr8.new _ _ _ _ _ _ _ _ _ _⟩, fun _ _ _ _ _ => ⟨trivial, trivial⟩⟩
  case hend =>
    intro vs X hX hv _
    have e0 : vs 0 = .agg #[.int .i64 l, .int .i64 h, .bool p, .bool q] := hv 0 (by decide)
    have e1 : vs 1 = .agg #[.int .i64 l, .bool p] := hv 1 (by decide)
    have e2 : vs 2 = .agg #[.int .i64 l, .int .i64 h, .bool p, .bool q] := hv 2 (by decide)
    have e3 : vs 3 = .agg #[.int .i64 h, .bool q] := hv 3 (by decide)
    have e4 : vs 4 = .agg #[.int .i64 l', .int .i64 h', .bool p', .bool q'] := hv 4 (by decide)
    have e5 : vs 5 = .agg #[.int .i64 l', .bool p'] := hv 5 (by decide)
    have e6 : vs 6 = .agg #[.int .i64 l', .int .i64 h', .bool p', .bool q'] := hv 6 (by decide)
    have e7 : vs 7 = .agg #[.int .i64 h', .bool q'] := hv 7 (by decide)
    have e8 : vs 8 = .agg #[.int .i64 l, .bool p, .int .i64 h, .bool q, .int .i64 l', .bool p', .int .i64 h', .bool q'] := hv 8 (by decide)
    obtain ⟨b5, e9, hb5, hx5⟩ : ∃ b, vs 9 = .pointer (some ⟨b, 0, none⟩) ∧ W.heap.size ≤ b ∧ Arr8 X b 0 false 0 false 0 false 0 false := hv 9 (by decide)
    clear hv k0 k1 k2 k3 kf l0 l1 l2 l3 lf
    have hC5 := hC.go hX
    have hlt5 : w.heap.size + 1 + 1 < b5 := Nat.lt_of_lt_of_le hC.lt hb5
    replace hL := hL.trans (hX.mono hL.size)
    clear hX hA hB hC hb5
    obtain ⟨g0, g1, g2, g3, g4, g5, g6, g7, gf⟩ := id hx5
    simp only [puts, Act.put, e0, e1, e2, e3, e4, e5, e6, e7, e8, e9, List.drop_succ_cons, List.drop_zero, List.setIfInBounds_toArray, List.set_cons_zero, List.set_cons_succ]
    clear e0 e1 e2 e3 e4 e5 e6 e7 e8 e9
    go_wp2_with fail
    refine mixQ_normal ?_
    obtain ⟨X1, hX1⟩ : ∃ Y, Y = (((((((X.setCell ⟨b5, 0, none⟩ (.int .i64 l)).setCell ⟨b5, 1, none⟩ (.bool p)).setCell ⟨b5, 2, none⟩ (.int .i64 h)).setCell ⟨b5, 3, none⟩ (.bool q)).setCell ⟨b5, 4, none⟩ (.int .i64 l')).setCell ⟨b5, 5, none⟩ (.bool p')).setCell ⟨b5, 6, none⟩ (.int .i64 h')).setCell ⟨b5, 7, none⟩ (.bool q') := ⟨_, rfl⟩
    have hS := Mu.start hx5 hC5 hL hlt5 l h l' h' p q p' q'
    rw [← hX1] at hS ⊢
    clear hX1 hx5 hC5 hL hlt5 g0 g1 g2 g3 g4 g5 g6 g7 gf
    have HZ : Hid ((p && n1) = false ∨ (q && n2) = false ∨ (p' && n3) = false ∨ (q' && n4) = false → R = ⟨0, 0, false, false⟩) := Lib.hid (fun hz => by
      rw [HR.out, if_neg]; rfl
      intro hc
      simp only [Bool.and_eq_true] at hc
      simp [hc] at hz)
    have HY : Hid ((p && n1) = true → (q && n2) = true → (p' && n3) = true → (q' && n4) = true → (R = ⟨min (min (l * l') (l * h')) (min (h * l') (h * h')), max (max (l * l') (l * h')) (max (h * l') (h * h')), true, true⟩) ∧ ((-1152921504606846976 ≤ l * l' ∧ l * l' ≤ 1152921504606846976) ∧ (-1152921504606846976 ≤ l * h' ∧ l * h' ≤ 1152921504606846976) ∧ (-1152921504606846976 ≤ h * l' ∧ h * l' ≤ 1152921504606846976) ∧ (-1152921504606846976 ≤ h * h' ∧ h * h' ≤ 1152921504606846976))) := Lib.hid (fun a b c d => by
      simp only [Bool.and_eq_true] at a b c d
      exact ⟨by rw [HR.out, if_pos (by simp [a, b, c, d])], HM.out a.2 b.2 c.2 d.2⟩)
    clear HR HM
    obtain ⟨y0, hy0⟩ : ∃ y, (p && n1) = y := ⟨_, rfl⟩
    rw [hy0] at c1
    obtain ⟨y1, hy1⟩ : ∃ y, (q && n2) = y := ⟨_, rfl⟩
    rw [hy1] at c2
    obtain ⟨y2, hy2⟩ : ∃ y, (p' && n3) = y := ⟨_, rfl⟩
    rw [hy2] at c3
    obtain ⟨y3, hy3⟩ : ∃ y, (q' && n4) = y := ⟨_, rfl⟩
    rw [hy3] at c4
    rw [hy0, hy1, hy2, hy3] at HZ HY
    clear hy0 hy1 hy2 hy3
    have i0 : ∀ X : World, (Instr.index 105 (.agg #[.int .i64 l, .bool p, .int .i64 h, .bool q, .int .i64 l', .bool p', .int .i64 h', .bool q']) (.int .i64 0)).run Try.prog X = .ok (.agg #[.int .i64 l, .bool p]) X := fun X => by kernel_rfl
    have i1 : ∀ X : World, (Instr.index 105 (.agg #[.int .i64 l, .bool p, .int .i64 h, .bool q, .int .i64 l', .bool p', .int .i64 h', .bool q']) (.int .i64 1)).run Try.prog X = .ok (.agg #[.int .i64 h, .bool q]) X := fun X => by kernel_rfl
    have i2 : ∀ X : World, (Instr.index 105 (.agg #[.int .i64 l, .bool p, .int .i64 h, .bool q, .int .i64 l', .bool p', .int .i64 h', .bool q']) (.int .i64 2)).run Try.prog X = .ok (.agg #[.int .i64 l', .bool p']) X := fun X => by kernel_rfl
    have i3 : ∀ X : World, (Instr.index 105 (.agg #[.int .i64 l, .bool p, .int .i64 h, .bool q, .int .i64 l', .bool p', .int .i64 h', .bool q']) (.int .i64 3)).run Try.prog X = .ok (.agg #[.int .i64 h', .bool q']) X := fun X => by kernel_rfl
    obtain ⟨g0, g1, g2, g3, g4, g5, g6, g7, gf⟩ := id hS.arr
    go_wp2_with fail
    clear g0 g1 g2 g3 g4 g5 g6 g7 gf
    refine wp_loop_rounds 5 ?_
    rw [rounds_succ]
    go_wp2_with fail
    replace hS := hS.new l p
    with_reducible refine (c1 _).mono ?_
    rintro e z0 ⟨rfl, hb⟩
    replace hS := hS.go hb
    clear hb c1
    rcases y0 with _ | _
    · have HF := Lib.hid (HZ.out (by simp))
      obtain ⟨r0, r1, r2, r3, rf⟩ := id hS.r
      have hL := hS.below
      clear HZ HY hS
      go_wp2_with fail
      refine bodyPost_ret (v := .agg #[.int .i64 0, .int .i64 0, .bool false, .bool false]) (by simp [results, Try.results47, go_sem, r0, r1, r2, r3]) rfl ⟨retR HF.out, ?_⟩
      exact below_put4 hL _ _ _ _
    go_wp2_with fail
    rw [rounds_succ]
    go_wp2_with fail
    replace hS := hS.new h q
    with_reducible refine (c2 _).mono ?_
    rintro e z1 ⟨rfl, hb⟩
    replace hS := hS.go hb
    clear hb c2
    rcases y1 with _ | _
    · have HF := Lib.hid (HZ.out (by simp))
      obtain ⟨r0, r1, r2, r3, rf⟩ := id hS.r
      have hL := hS.below
      clear HZ HY hS
      go_wp2_with fail
      refine bodyPost_ret (v := .agg #[.int .i64 0, .int .i64 0, .bool false, .bool false]) (by simp [results, Try.results47, go_sem, r0, r1, r2, r3]) rfl ⟨retR HF.out, ?_⟩
      exact below_put4 hL _ _ _ _
    go_wp2_with fail
    rw [rounds_succ]
    go_wp2_with fail
    replace hS := hS.new l' p'
    with_reducible refine (c3 _).mono ?_
    rintro e z2 ⟨rfl, hb⟩
    replace hS := hS.go hb
    clear hb c3
    rcases y2 with _ | _
    · have HF := Lib.hid (HZ.out (by simp))
      obtain ⟨r0, r1, r2, r3, rf⟩ := id hS.r
      have hL := hS.below
      clear HZ HY hS
      go_wp2_with fail
      refine bodyPost_ret (v := .agg #[.int .i64 0, .int .i64 0, .bool false, .bool false]) (by simp [results, Try.results47, go_sem, r0, r1, r2, r3]) rfl ⟨retR HF.out, ?_⟩
      exact below_put4 hL _ _ _ _
    go_wp2_with fail
    rw [rounds_succ]
    go_wp2_with fail
    replace hS := hS.new h' q'
    with_reducible refine (c4 _).mono ?_
    rintro e z3 ⟨rfl, hb⟩
    replace hS := hS.go hb
    clear hb c4
    rcases y3 with _ | _
    · have HF := Lib.hid (HZ.out (by simp))
      obtain ⟨r0, r1, r2, r3, rf⟩ := id hS.r
      have hL := hS.below
      clear HZ HY hS
      go_wp2_with fail
      refine bodyPost_ret (v := .agg #[.int .i64 0, .int .i64 0, .bool false, .bool false]) (by simp [results, Try.results47, go_sem, r0, r1, r2, r3]) rfl ⟨retR HF.out, ?_⟩
      exact below_put4 hL _ _ _ _
    go_wp2_with fail
    rw [rounds_succ]
    go_wp2_with fail
    obtain ⟨HR2, u1, u2, u3, u4⟩ := HY.out trivial trivial trivial trivial
    clear HY HZ
    have w1 : wrap64 (l * l') = l * l' := wrap64_eq ⟨by omega, by omega⟩
    have w2 : wrap64 (l * h') = l * h' := wrap64_eq ⟨by omega, by omega⟩
    have w3 : wrap64 (h * l') = h * l' := wrap64_eq ⟨by omega, by omega⟩
    have w4 : wrap64 (h * h') = h * h' := wrap64_eq ⟨by omega, by omega⟩
    clear u1 u2 u3 u4
    obtain ⟨v1, hv1⟩ : ∃ v, v = l * l' := ⟨_, rfl⟩
    obtain ⟨v2, hv2⟩ : ∃ v, v = l * h' := ⟨_, rfl⟩
    obtain ⟨v3, hv3⟩ : ∃ v, v = h * l' := ⟨_, rfl⟩
    obtain ⟨v4, hv4⟩ : ∃ v, v = h * h' := ⟨_, rfl⟩
    rw [← hv1, ← hv2, ← hv3, ← hv4] at HR2
    replace w1 := w1.trans hv1.symm
    replace w2 := w2.trans hv2.symm
    replace w3 := w3.trans hv3.symm
    replace w4 := w4.trans hv4.symm
    have HR := Lib.hid HR2
    clear HR2 hv1 hv2 hv3 hv4
    have W1 := Lib.hid w1
    have W2 := Lib.hid w2
    have W3 := Lib.hid w3
    have W4 := Lib.hid w4
    clear w2 w3 w4
    obtain ⟨g0, g1, g2, g3, g4, g5, g6, g7, gf⟩ := id hS.arr
    have a0 := After.cell g0
    have a4 := After.cell g4
    refine wp_region_after (by kernel_rfl) (by kernel_rfl) ?_
    repeat (go_big_quiet_step (fail))
    refine wpQuiet_nil ?_
    intro z4 hb
    clear a0 a4 g0 g1 g2 g3 g4 g5 g6 g7 gf w1
    replace hS := hS.go hb
    clear hb
    go_wp2_with fail
    refine wp_loop_rounds 3 ?_
    rw [rounds_succ]
    obtain ⟨g0, g1, g2, g3, g4, g5, g6, g7, gf⟩ := id hS.arr
    go_wp2_with fail
    clear g0 g1 g2 g3 g4 g5 g6 g7 gf
    have hx := EndBox.new z4 99 l p
    replace hS := hS.new l p
    generalize z4.heap.size = bx0 at *
    generalize z4.alloc (.cells #[.int .i64 l, .bool p] 99) = y0 at *
    refine wp_loop_rounds 3 ?_
    rw [rounds_succ]
    obtain ⟨g0, g1, g2, g3, g4, g5, g6, g7, gf⟩ := id hS.arr
    go_wp2_with fail
    clear g0 g1 g2 g3 g4 g5 g6 g7 gf
    have hy := EndBox.new y0 99 l' p'
    replace hx := hx.go ((Below.refl _ _).alloc (Nat.le_refl _) (.cells #[.int .i64 l', .bool p'] 99))
    replace hS := hS.new l' p'
    generalize y0.heap.size = by1 at *
    generalize y0.alloc (.cells #[.int .i64 l', .bool p'] 99) = x1 at *
    have a0 := After.cell hx.c0
    have a1 := After.cell hy.c0
    have ww := W1.out
    refine wp_region_after (by kernel_rfl) (by kernel_rfl) ?_
    repeat (go_big_quiet_step (fail))
    refine wpQuiet_nil ?_
    intro z5 hb
    clear a0 a1 ww hy
    replace hS := hS.go hb
    replace hx := hx.go hb
    clear hb
    go_wp2_with fail
    rw [rounds_succ]
    obtain ⟨g0, g1, g2, g3, g4, g5, g6, g7, gf⟩ := id hS.arr
    go_wp2_with fail
    clear g0 g1 g2 g3 g4 g5 g6 g7 gf
    have hy := EndBox.new z5 99 h' q'
    replace hx := hx.go ((Below.refl _ _).alloc (Nat.le_refl _) (.cells #[.int .i64 h', .bool q'] 99))
    replace hS := hS.new h' q'
    generalize z5.heap.size = by2 at *
    generalize z5.alloc (.cells #[.int .i64 h', .bool q'] 99) = x2 at *
    have a0 := After.cell hx.c0
    have a1 := After.cell hy.c0
    have ww := W2.out
    obtain ⟨m2, hm⟩ : ∃ m, (if v2 < v1 then v2 else v1) = m := ⟨_, rfl⟩
    obtain ⟨t2, ht⟩ : ∃ m, (if v1 < v2 then v2 else v1) = m := ⟨_, rfl⟩
    have Hm2 := Lib.hid hm
    have Ht2 := Lib.hid ht
    refine wp_region_after (by kernel_rfl) (by kernel_rfl) ?_
    repeat (go_big_quiet_step (fail))
    refine wpQuiet_nil ?_
    intro z6 hb
    clear a0 a1 ww hy hm ht
    replace hS := hS.go hb
    replace hx := hx.go hb
    clear hb
    go_wp2_with fail
    rw [rounds_succ]
    go_wp2_with fail
    clear hx
    rw [rounds_succ]
    obtain ⟨g0, g1, g2, g3, g4, g5, g6, g7, gf⟩ := id hS.arr
    go_wp2_with fail
    clear g0 g1 g2 g3 g4 g5 g6 g7 gf
    have hx := EndBox.new z6 99 h q
    replace hS := hS.new h q
    generalize z6.heap.size = bx1 at *
    generalize z6.alloc (.cells #[.int .i64 h, .bool q] 99) = y1 at *
    refine wp_loop_rounds 3 ?_
    rw [rounds_succ]
    obtain ⟨g0, g1, g2, g3, g4, g5, g6, g7, gf⟩ := id hS.arr
    go_wp2_with fail
    clear g0 g1 g2 g3 g4 g5 g6 g7 gf
    have hy := EndBox.new y1 99 l' p'
    replace hx := hx.go ((Below.refl _ _).alloc (Nat.le_refl _) (.cells #[.int .i64 l', .bool p'] 99))
    replace hS := hS.new l' p'
    generalize y1.heap.size = by3 at *
    generalize y1.alloc (.cells #[.int .i64 l', .bool p'] 99) = x3 at *
    have a0 := After.cell hx.c0
    have a1 := After.cell hy.c0
    have ww := W3.out
    obtain ⟨m3, hm⟩ : ∃ m, (if v3 < m2 then v3 else m2) = m := ⟨_, rfl⟩
    obtain ⟨t3, ht⟩ : ∃ m, (if t2 < v3 then v3 else t2) = m := ⟨_, rfl⟩
    have Hm3 := Lib.hid hm
    have Ht3 := Lib.hid ht
    refine wp_region_after (by kernel_rfl) (by kernel_rfl) ?_
    repeat (go_big_quiet_step (fail))
    refine wpQuiet_nil ?_
    intro z7 hb
    clear a0 a1 ww hy hm ht
    replace hS := hS.go hb
    replace hx := hx.go hb
    clear hb
    go_wp2_with fail
    rw [rounds_succ]
    obtain ⟨g0, g1, g2, g3, g4, g5, g6, g7, gf⟩ := id hS.arr
    go_wp2_with fail
    clear g0 g1 g2 g3 g4 g5 g6 g7 gf
    have hy := EndBox.new z7 99 h' q'
    replace hx := hx.go ((Below.refl _ _).alloc (Nat.le_refl _) (.cells #[.int .i64 h', .bool q'] 99))
    replace hS := hS.new h' q'
    generalize z7.heap.size = by4 at *
    generalize z7.alloc (.cells #[.int .i64 h', .bool q'] 99) = x4 at *
    have a0 := After.cell hx.c0
    have a1 := After.cell hy.c0
    have ww := W4.out
    obtain ⟨m4, hm⟩ : ∃ m, (if v4 < m3 then v4 else m3) = m := ⟨_, rfl⟩
    obtain ⟨t4, ht⟩ : ∃ m, (if t3 < v4 then v4 else t3) = m := ⟨_, rfl⟩
    have Hm4 := Lib.hid hm
    have Ht4 := Lib.hid ht
    refine wp_region_after (by kernel_rfl) (by kernel_rfl) ?_
    repeat (go_big_quiet_step (fail))
    refine wpQuiet_nil ?_
    intro z8 hb
    clear a0 a1 ww hy hm ht
    replace hS := hS.go hb
    replace hx := hx.go hb
    clear hb
    go_wp2_with fail
    rw [rounds_succ]
    go_wp2_with fail
    clear hx
    rw [rounds_succ]
    go_wp2_with fail
    with_reducible refine (span_at m4 _).mono ?_
    rintro e s1 ⟨rfl, hb⟩
    replace hS := hS.go hb
    clear hb
    go_wp2_with fail
    with_reducible refine (span_at t4 _).mono ?_
    rintro e s2 ⟨rfl, hb⟩
    replace hS := hS.go hb
    clear hb
    have cT := end_to m4 t4 true true s2 R (by
      rw [HR.out]
      have h2 := Hm2.out; have h3 := Hm3.out; have h4 := Hm4.out; have k2 := Ht2.out; have k3 := Ht3.out; have k4 := Ht4.out
      have e1 : min (min v1 v2) (min v3 v4) = m4 := by (clear k2 k3 k4; split at h2 <;> split at h3 <;> split at h4 <;> omega)
      have e2 : max (max v1 v2) (max v3 v4) = t4 := by (clear h2 h3 h4; split at k2 <;> split at k3 <;> split at k4 <;> omega)
      rw [e1, e2]; rfl)
    go_wp2_with fail
    with_reducible refine cT.mono ?_
    clear cT
    rintro e s3 ⟨rfl, hb⟩
    replace hS := hS.go hb
    clear hb
    obtain ⟨r0, r1, r2, r3, rf⟩ := id hS.r
    have hL := hS.below
    clear hS
    go_wp2_with fail
    refine bodyPost_ret (v := .agg #[.int .i64 R.lo, .int .i64 R.hi, .bool R.hl, .bool R.hh]) (by simp [results, Try.results47, go_sem, r0, r1, r2, r3]) rfl ⟨rfl, ?_⟩
    exact below_put4 hL _ _ _ _
end Go.Proofs.Ytkogplnleiapfaa
