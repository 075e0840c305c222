/- The walks of span.Rem, span.Mul and of gnomonref15's. -/
import Derived.Test.YtkogplnleiapfaaSpw
namespace Go.Proofs.Ytkogplnleiapfaa
open Go.RowKit
set_option linter.unusedVariables false
set_option linter.unusedSimpArgs false
open Gn
set_option maxHeartbeats 4000000 in
theorem ref15_Rem (a b : Rg) (w : World) (hb : I64 b.lo) (hp' : I64 a.hi) :
    Calls Try.prog 52 #[.agg #[.int .i64 a.lo, .int .i64 a.hi, .bool a.hl, .bool a.hh], .agg #[.int .i64 b.lo, .int .i64 b.hi, .bool b.hl, .bool b.hh]] w fun e w' => e = .returned (.agg #[.int .i64 (remR a b).lo, .int .i64 (remR a b).hi, .bool (remR a b).hl, .bool (remR a b).hh]) ∧ Below w.heap.size w w' := by
  obtain ⟨l, h, p, q⟩ := a
  obtain ⟨l', h', p', q'⟩ := b
  obtain ⟨R, hR⟩ : ∃ R, R = remR ⟨l, h, p, q⟩ ⟨l', h', p', q'⟩ := ⟨_, rfl⟩
  rw [← hR]
  obtain ⟨W, hW, hA, hB, hC, hL⟩ := rg3 w 50 l h p q l' h' p' q'
  have c := ref15_divisor l' h' p' q' W
  dsimp only at *
  obtain ⟨x, hx⟩ : ∃ x, divB ⟨l', h', p', q'⟩ = x := ⟨_, rfl⟩
  rw [hx] at c
  go_enter Try.func52, Try.ntmps52
  have HX := Lib.hid hx
  have HR := Lib.hid hR
  have HJ := Lib.hid hb
  have HK := Lib.hid hp'
  clear hx hR hb hp'
  go_wp2_with fail
  rw [← hW]
  clear hW
  with_reducible refine c.mono ?_
  clear c
  rintro e w2 ⟨rfl, hb⟩
  replace hA := hA.go hb
  replace hB := hB.go hb
  replace hC := hC.go hb
  replace hL := hL.trans (hb.mono hL.size)
  clear hb
  have s0 := hA.lt
  have s1 := hB.lt
  have s2 := hC.lt
  obtain ⟨k0, k1, k2, k3, kf⟩ := hA
  obtain ⟨l0, l1, l2, l3, lf⟩ := hB
  obtain ⟨m0, m1, m2, m3, mf⟩ := hC
  rcases x with _ | _
  · have HF := Lib.hid (show R = ⟨0, 0, false, false⟩ by rw [HR.out]; unfold remR; rw [if_pos (oneV_no HX.out)]; rfl)
    clear HX HR
    go_wp2_with fail
    refine bodyPost_ret (v := .agg #[.int .i64 0, .int .i64 0, .bool false, .bool false]) (by simp [results, Try.results52, go_sem, m0, m1, m2, m3]) rfl ⟨retR HF.out, ?_⟩
    exact (((hL.setCell (by simp; omega) _).setCell (by simp; omega) _).setCell (by simp; omega) _).setCell (by simp; omega) _
  · obtain ⟨e1, e2⟩ := oneV_yes HX.out
    dsimp only at e1 e2
    have HF := Lib.hid (show R = ⟨if upB ⟨l, h, p, q⟩ = true then 0 else 1 - l', if (q && decide (h ≤ 0)) = true then 0 else if (q && upB ⟨l, h, p, q⟩) = true then min (l' - 1) h else l' - 1, true, true⟩ by
      rw [HR.out]; unfold remR; rw [if_neg (by rw [e1]; omega), e1])
    clear HX HR e1
    have j1 := HJ.out.1
    have j2 := HJ.out.2
    have j3 := HK.out.1
    have j4 := HK.out.2
    have hU : upB ⟨l, h, p, q⟩ = (p && decide (0 ≤ l)) := rfl
    rw [hU] at HF
    clear hU
    cases p
    · skip
      cases q
      · skip
        have HF2 := Lib.hid (show R = ⟨1 - l', l' - 1, true, true⟩ by rw [HF.out, show (false && decide (0 ≤ l)) = false from rfl]; rfl)
        clear HF
        go_wp2_with fail
        refine bodyPost_ret (v := .agg #[.int .i64 (1 - l'), .int .i64 (l' - 1), .bool true, .bool true]) (by simp [results, Try.results52, go_sem, m0, m1, m2, m3, s2]) rfl ⟨retR HF2.out, ?_⟩
        exact ((((hL.setCell (by simp; omega) _).setCell (by simp; omega) _).setCell (by simp; omega) _).setCell (by simp; omega) _).alloc (by simp; omega) _
      · by_cases hz : h ≤ 0
        · have dz : decide (h ≤ 0) = true := decide_eq_true hz
          have HF2 := Lib.hid (show R = ⟨1 - l', 0, true, true⟩ by rw [HF.out, show (false && decide (0 ≤ l)) = false from rfl, dz]; rfl)
          clear HF
          go_wp2_with fail
          refine bodyPost_ret (v := .agg #[.int .i64 (1 - l'), .int .i64 (0), .bool true, .bool true]) (by simp [results, Try.results52, go_sem, m0, m1, m2, m3, s2]) rfl ⟨retR HF2.out, ?_⟩
          exact ((((hL.setCell (by simp; omega) _).setCell (by simp; omega) _).setCell (by simp; omega) _).setCell (by simp; omega) _).alloc (by simp; omega) _
        · have dz : decide (h ≤ 0) = false := decide_eq_false hz
          have HF2 := Lib.hid (show R = ⟨1 - l', l' - 1, true, true⟩ by rw [HF.out, show (false && decide (0 ≤ l)) = false from rfl, dz]; rfl)
          clear HF
          go_wp2_with fail
          refine bodyPost_ret (v := .agg #[.int .i64 (1 - l'), .int .i64 (l' - 1), .bool true, .bool true]) (by simp [results, Try.results52, go_sem, m0, m1, m2, m3, s2]) rfl ⟨retR HF2.out, ?_⟩
          exact ((((hL.setCell (by simp; omega) _).setCell (by simp; omega) _).setCell (by simp; omega) _).setCell (by simp; omega) _).alloc (by simp; omega) _
    · by_cases hl : 0 ≤ l
      · have dl : decide (0 ≤ l) = true := decide_eq_true hl
        cases q
        · skip
          have HF2 := Lib.hid (show R = ⟨0, l' - 1, true, true⟩ by rw [HF.out, show (true && decide (0 ≤ l)) = true from dl]; rfl)
          clear HF
          go_wp2_with fail
          refine bodyPost_ret (v := .agg #[.int .i64 (0), .int .i64 (l' - 1), .bool true, .bool true]) (by simp [results, Try.results52, go_sem, m0, m1, m2, m3, s2]) rfl ⟨retR HF2.out, ?_⟩
          exact ((((hL.setCell (by simp; omega) _).setCell (by simp; omega) _).setCell (by simp; omega) _).setCell (by simp; omega) _).alloc (by simp; omega) _
        · by_cases hz : h ≤ 0
          · have dz : decide (h ≤ 0) = true := decide_eq_true hz
            have HF2 := Lib.hid (show R = ⟨0, 0, true, true⟩ by rw [HF.out, show (true && decide (0 ≤ l)) = true from dl, dz]; rfl)
            clear HF
            go_wp2_with fail
            refine bodyPost_ret (v := .agg #[.int .i64 (0), .int .i64 (0), .bool true, .bool true]) (by simp [results, Try.results52, go_sem, m0, m1, m2, m3, s2]) rfl ⟨retR HF2.out, ?_⟩
            exact ((((hL.setCell (by simp; omega) _).setCell (by simp; omega) _).setCell (by simp; omega) _).setCell (by simp; omega) _).alloc (by simp; omega) _
          · have dz : decide (h ≤ 0) = false := decide_eq_false hz
            by_cases hm : h < l' - 1
            · have HM := Lib.hid (show min (l' - 1) h = h by omega)
              have HF2 := Lib.hid (show R = ⟨0, h, true, true⟩ by rw [HF.out, show (true && decide (0 ≤ l)) = true from dl, dz, HM.out]; rfl)
              clear HF
              go_wp2_with fail
              refine bodyPost_ret (v := .agg #[.int .i64 (0), .int .i64 (h), .bool true, .bool true]) (by simp [results, Try.results52, go_sem, m0, m1, m2, m3, s2]) rfl ⟨retR HF2.out, ?_⟩
              exact ((((hL.setCell (by simp; omega) _).setCell (by simp; omega) _).setCell (by simp; omega) _).setCell (by simp; omega) _).alloc (by simp; omega) _
            · have HM := Lib.hid (show min (l' - 1) h = l' - 1 by omega)
              have HF2 := Lib.hid (show R = ⟨0, l' - 1, true, true⟩ by rw [HF.out, show (true && decide (0 ≤ l)) = true from dl, dz, HM.out]; rfl)
              clear HF
              go_wp2_with fail
              refine bodyPost_ret (v := .agg #[.int .i64 (0), .int .i64 (l' - 1), .bool true, .bool true]) (by simp [results, Try.results52, go_sem, m0, m1, m2, m3, s2]) rfl ⟨retR HF2.out, ?_⟩
              exact ((((hL.setCell (by simp; omega) _).setCell (by simp; omega) _).setCell (by simp; omega) _).setCell (by simp; omega) _).alloc (by simp; omega) _
      · have dl : decide (0 ≤ l) = false := decide_eq_false hl
        cases q
        · skip
          have HF2 := Lib.hid (show R = ⟨1 - l', l' - 1, true, true⟩ by rw [HF.out, show (true && decide (0 ≤ l)) = false from dl]; rfl)
          clear HF
          go_wp2_with fail
          refine bodyPost_ret (v := .agg #[.int .i64 (1 - l'), .int .i64 (l' - 1), .bool true, .bool true]) (by simp [results, Try.results52, go_sem, m0, m1, m2, m3, s2]) rfl ⟨retR HF2.out, ?_⟩
          exact ((((hL.setCell (by simp; omega) _).setCell (by simp; omega) _).setCell (by simp; omega) _).setCell (by simp; omega) _).alloc (by simp; omega) _
        · by_cases hz : h ≤ 0
          · have dz : decide (h ≤ 0) = true := decide_eq_true hz
            have HF2 := Lib.hid (show R = ⟨1 - l', 0, true, true⟩ by rw [HF.out, show (true && decide (0 ≤ l)) = false from dl, dz]; rfl)
            clear HF
            go_wp2_with fail
            refine bodyPost_ret (v := .agg #[.int .i64 (1 - l'), .int .i64 (0), .bool true, .bool true]) (by simp [results, Try.results52, go_sem, m0, m1, m2, m3, s2]) rfl ⟨retR HF2.out, ?_⟩
            exact ((((hL.setCell (by simp; omega) _).setCell (by simp; omega) _).setCell (by simp; omega) _).setCell (by simp; omega) _).alloc (by simp; omega) _
          · have dz : decide (h ≤ 0) = false := decide_eq_false hz
            have HF2 := Lib.hid (show R = ⟨1 - l', l' - 1, true, true⟩ by rw [HF.out, show (true && decide (0 ≤ l)) = false from dl, dz]; rfl)
            clear HF
            go_wp2_with fail
            refine bodyPost_ret (v := .agg #[.int .i64 (1 - l'), .int .i64 (l' - 1), .bool true, .bool true]) (by simp [results, Try.results52, go_sem, m0, m1, m2, m3, s2]) rfl ⟨retR HF2.out, ?_⟩
            exact ((((hL.setCell (by simp; omega) _).setCell (by simp; omega) _).setCell (by simp; omega) _).setCell (by simp; omega) _).alloc (by simp; omega) _
/-- A variable that holds an end. -/
structure EndBox (w : World) (b : Nat) (n : Int) (p : Bool) : Prop where
  c0 : w.cell? ⟨b, 0, none⟩ = some (.int .i64 n)
  c1 : w.cell? ⟨b, 1, none⟩ = some (.bool p)
  fz : ∀ i, w.frozen? ⟨b, i, none⟩ = false
theorem EndBox.lt {w : World} {b : Nat} {n : Int} {p : Bool} (k : EndBox w b n p) : b < w.heap.size := World.block_lt_of_cell? w ⟨b, 0, none⟩ k.c0
theorem EndBox.go {w w' : World} {b : Nat} {n : Int} {p : Bool} (k : EndBox w b n p) (hb : Below w.heap.size w w') : EndBox w' b n p :=
  ⟨below_cell hb k.c0, below_cell hb k.c1, fun i => below_frozen hb k.c0 (k.fz i)⟩
theorem EndBox.new (w : World) (t : TypeId) (n : Int) (p : Bool) : EndBox (w.alloc (.cells #[.int .i64 n, .bool p] t)) w.heap.size n p :=
  ⟨by simp [World.cell?_alloc_new], by simp [World.cell?_alloc_new], fun i => by simp [go_sem]⟩
theorem EndBox.put {w : World} {b : Nat} {n : Int} {p : Bool} (k : EndBox w b n p) (m : Int) (q : Bool) : EndBox ((w.setCell ⟨b, 0, none⟩ (.int .i64 m)).setCell ⟨b, 1, none⟩ (.bool q)) b m q :=
  ⟨by simp [go_sem, k.c0, k.c1], by simp [go_sem, k.c0, k.c1], fun i => by simp [go_sem, k.fz]⟩
theorem EndBox.other {w : World} {b b' : Nat} {n : Int} {p : Bool} (k : EndBox w b n p) (hne : b ≠ b') (v v' : Value) : EndBox ((w.setCell ⟨b', 0, none⟩ v).setCell ⟨b', 1, none⟩ v') b n p :=
  ⟨by simp [go_sem, k.c0, hne], by simp [go_sem, k.c1, hne], fun i => by simp [go_sem, k.fz]⟩
theorem RgBox.other {w : World} {b b' : Nat} {l h : Int} {p q : Bool} (k : RgBox w b l h p q) (hne : b ≠ b') (v v' : Value) : RgBox ((w.setCell ⟨b', 0, none⟩ v).setCell ⟨b', 1, none⟩ v') b l h p q :=
  ⟨by simp [go_sem, k.c0, hne], by simp [go_sem, k.c1, hne], by simp [go_sem, k.c2, hne], by simp [go_sem, k.c3, hne], fun i => by simp [go_sem, k.fz]⟩
/-- On the way of Rem: a range, the one to be told, two ends. -/
structure Rm (w W : World) (b6 b7 : Nat) (l h : Int) (p q : Bool) (m n : Int) : Prop where
  a : RgBox W w.heap.size l h p q
  r : RgBox W (w.heap.size + 1 + 1) 0 0 false false
  x : EndBox W b6 m true
  y : EndBox W b7 n true
  below : Below w.heap.size w W
  lt : w.heap.size + 1 + 1 < b6
  ne : b6 < b7
theorem Rm.go {w W W' : World} {b6 b7 : Nat} {l h : Int} {p q : Bool} {m n : Int} (k : Rm w W b6 b7 l h p q m n) (hb : Below W.heap.size W W') : Rm w W' b6 b7 l h p q m n :=
  ⟨k.a.go hb, k.r.go hb, k.x.go hb, k.y.go hb, k.below.trans (hb.mono k.below.size), k.lt, k.ne⟩
theorem Rm.put6 {w W : World} {b6 b7 : Nat} {l h : Int} {p q : Bool} {m n : Int} (k : Rm w W b6 b7 l h p q m n) (m' : Int) : Rm w ((W.setCell ⟨b6, 0, none⟩ (.int .i64 m')).setCell ⟨b6, 1, none⟩ (.bool true)) b6 b7 l h p q m' n :=
  ⟨k.a.other (by have := k.lt; omega) _ _, k.r.other (by have := k.lt; omega) _ _, k.x.put _ _, k.y.other (by have := k.ne; omega) _ _, (k.below.setCell (by have := k.lt; simp; omega) _).setCell (by have := k.lt; simp; omega) _, k.lt, k.ne⟩
theorem Rm.put7 {w W : World} {b6 b7 : Nat} {l h : Int} {p q : Bool} {m n : Int} (k : Rm w W b6 b7 l h p q m n) (n' : Int) : Rm w ((W.setCell ⟨b7, 0, none⟩ (.int .i64 n')).setCell ⟨b7, 1, none⟩ (.bool true)) b6 b7 l h p q m n' :=
  ⟨k.a.other (by have := k.lt; have := k.ne; omega) _ _, k.r.other (by have := k.lt; have := k.ne; omega) _ _, k.x.other (by have := k.ne; omega) _ _, k.y.put _ _, (k.below.setCell (by have := k.lt; have := k.ne; simp; omega) _).setCell (by have := k.lt; have := k.ne; simp; omega) _, k.lt, k.ne⟩
set_option maxHeartbeats 8000000 in
theorem span_Rem (a b : Rg) (w : World) (hb : I64 b.lo) (hp' : I64 a.hi) :
    Calls Try.prog 51 #[.agg #[.int .i64 a.lo, .int .i64 a.hi, .bool a.hl, .bool a.hh], .agg #[.int .i64 b.lo, .int .i64 b.hi, .bool b.hl, .bool b.hh]] w fun e w' => e = .returned (.agg #[.int .i64 (remR a b).lo, .int .i64 (remR a b).hi, .bool (remR a b).hl, .bool (remR a b).hh]) ∧ Below w.heap.size w w' := by
  obtain ⟨l, h, p, q⟩ := a
  obtain ⟨l', h', p', q'⟩ := b
  obtain ⟨R, hR⟩ : ∃ R, R = remR ⟨l, h, p, q⟩ ⟨l', h', p', q'⟩ := ⟨_, rfl⟩
  rw [← hR]
  obtain ⟨W, hW, hA, hB, hC, hL⟩ := rg3 w 50 l h p q l' h' p' q'
  have c := span_one l' h' p' q' W
  have hp := @oneV_pos ⟨l', h', p', q'⟩
  dsimp only at *
  unfold remR at hR
  obtain ⟨k, hk⟩ : ∃ k, oneV ⟨l', h', p', q'⟩ = k := ⟨_, rfl⟩
  rw [hk] at c hp hR
  have HK := Lib.hid hp'
  have HP : Hid (k ≠ 0 → 0 < k ∧ k ≤ 9223372036854775807) := Lib.hid (fun h => by have := hp h; have := hb.2; omega)
  have HR := Lib.hid hR
  clear hR hk hp hb hp'
  obtain ⟨l0, l1, l2, l3, lf⟩ := hB
  go_enter Try.func51, Try.ntmps51
  rw [hW] at l0 l1 l2 l3
  go_wp2_with fail
  rw [← hW]
  clear hW l0 l1 l2 l3
  with_reducible refine c.mono ?_
  clear c
  rintro e w2 ⟨rfl, hb⟩
  replace hA := hA.go hb
  replace hC := hC.go hb
  replace hL := hL.trans (hb.mono hL.size)
  clear hb
  by_cases hk : k = 0
  · have HF := Lib.hid (show R = ⟨0, 0, false, false⟩ by rw [HR.out, if_pos hk]; rfl)
    have d : (k == 0) = true := beq_iff_eq.2 hk
    obtain ⟨m0, m1, m2, m3, mf⟩ := hC
    clear hk HR
    go_wp2_with fail
    refine bodyPost_ret (v := .agg #[.int .i64 0, .int .i64 0, .bool false, .bool false]) (by simp [results, Try.results51, go_sem, m0, m1, m2, m3]) rfl ⟨retR HF.out, ?_⟩
    exact (((hL.setCell (by simp; omega) _).setCell (by simp; omega) _).setCell (by simp; omega) _).setCell (by simp; omega) _
  · have HF := Lib.hid (show R = ⟨if upB ⟨l, h, p, q⟩ = true then 0 else 1 - k, if (q && decide (h ≤ 0)) = true then 0 else if (q && upB ⟨l, h, p, q⟩) = true then min (k - 1) h else k - 1, true, true⟩ by rw [HR.out, if_neg hk])
    have d : (k == 0) = false := beq_eq_false_iff_ne.2 hk
    obtain ⟨j1, j2⟩ := HP.out hk
    clear hk HR HP
    go_wp2_with fail
    with_reducible refine (span_at (1 - k) _).mono ?_
    rintro e w3 ⟨rfl, hb⟩
    replace hA := hA.go hb
    replace hC := hC.go hb
    replace hL := hL.trans (hb.mono hL.size)
    clear hb
    go_wp2_with fail
    with_reducible refine (span_at (k - 1) _).mono ?_
    rintro e w4 ⟨rfl, hb⟩
    replace hA := hA.go hb
    replace hC := hC.go hb
    replace hL := hL.trans (hb.mono hL.size)
    clear hb
    obtain ⟨W5, hW5⟩ : ∃ X, X = (w4.alloc (.cells #[.int .i64 (1 - k), .bool true] /-T-/99)).alloc (.cells #[.int .i64 (k - 1), .bool true] /-T-/99) := ⟨_, rfl⟩
    have hS : Rm w W5 w4.heap.size (w4.heap.size + 1) l h p q (1 - k) (k - 1) := by
      have b1 : Below w4.heap.size w4 (w4.alloc (.cells #[.int .i64 (1 - k), .bool true] 99)) := (Below.refl _ _).alloc (Nat.le_refl _) _
      have b2 := (Below.refl (w4.alloc (.cells #[.int .i64 (1 - k), .bool true] 99)).heap.size (w4.alloc (.cells #[.int .i64 (1 - k), .bool true] 99))).alloc (Nat.le_refl _) (.cells #[.int .i64 (k - 1), .bool true] 99)
      have n2 := EndBox.new (w4.alloc (.cells #[.int .i64 (1 - k), .bool true] 99)) 99 (k - 1) true
      rw [show (w4.alloc (.cells #[.int .i64 (1 - k), .bool true] 99)).heap.size = w4.heap.size + 1 by simp] at n2
      rw [hW5]
      exact ⟨(hA.go b1).go b2, (hC.go b1).go b2, (EndBox.new _ _ _ _).go b2, n2, (hL.trans (b1.mono hL.size)).trans (b2.mono (Nat.le_trans hL.size b1.size)), hC.lt, by omega⟩
    clear hA hC hL
    have hU : upB ⟨l, h, p, q⟩ = (p && decide (0 ≤ l)) := rfl
    rw [hU] at HF
    clear hU
    have j3 := HK.out.1
    have j4 := HK.out.2
    cases p
    · skip
      cases q
      · skip
        have HF2 := Lib.hid (show R = toR (1 - k) true (k - 1) true by rw [HF.out, show (false && decide (0 ≤ l)) = false from rfl]; rfl)
        clear HF
        obtain ⟨k0, k1, k2, k3, kf⟩ := id hS.a
        obtain ⟨x0, x1, xf⟩ := id hS.x
        obtain ⟨y0, y1, yf⟩ := id hS.y
        obtain ⟨r0, r1, r2, r3, rf⟩ := id hS.r
        have ne67 := hS.ne
        have lt6 := hS.lt
        have n1 : ¬ w4.heap.size = w4.heap.size + 1 := by omega
        have n2 : ¬ w4.heap.size + 1 = w4.heap.size := by omega
        have n3 : ¬ w.heap.size = w4.heap.size := by omega
        have n4 : ¬ w.heap.size = w4.heap.size + 1 := by omega
        have n5 : ¬ w.heap.size + 1 + 1 = w4.heap.size := by omega
        have n6 : ¬ w.heap.size + 1 + 1 = w4.heap.size + 1 := by omega
        rw [hW5] at k0 k1 k2 k3 x0 x1 y0 y1 r0 r1 r2 r3 kf xf yf rf
        go_wp2_with fail
        rw [← hW5]
        clear hW5
        try clear g0 g1 gf
        clear k0 k1 k2 k3 kf x0 x1 xf y0 y1 yf r0 r1 r2 r3 rf ne67 lt6 n1 n2 n3 n4 n5 n6
        with_reducible refine (end_to (1 - k) (k - 1) true true _ R HF2.out).mono ?_
        rintro e w9 ⟨rfl, hb⟩
        replace hS := hS.go hb
        clear hb
        obtain ⟨r0, r1, r2, r3, rf⟩ := id hS.r
        have hL := hS.below
        clear hS
        go_wp2_with fail
        refine bodyPost_ret (v := .agg #[.int .i64 R.lo, .int .i64 R.hi, .bool R.hl, .bool R.hh]) (by simp [results, Try.results51, go_sem, r0, r1, r2, r3]) rfl ⟨rfl, ?_⟩
        exact (((hL.setCell (by simp; omega) _).setCell (by simp; omega) _).setCell (by simp; omega) _).setCell (by simp; omega) _
      · by_cases hz : h ≤ 0
        · have dz : decide (h ≤ 0) = true := decide_eq_true hz
          obtain ⟨k0, k1, k2, k3, kf⟩ := id hS.a
          obtain ⟨x0, x1, xf⟩ := id hS.x
          obtain ⟨y0, y1, yf⟩ := id hS.y
          obtain ⟨r0, r1, r2, r3, rf⟩ := id hS.r
          have ne67 := hS.ne
          have lt6 := hS.lt
          have n1 : ¬ w4.heap.size = w4.heap.size + 1 := by omega
          have n2 : ¬ w4.heap.size + 1 = w4.heap.size := by omega
          have n3 : ¬ w.heap.size = w4.heap.size := by omega
          have n4 : ¬ w.heap.size = w4.heap.size + 1 := by omega
          have n5 : ¬ w.heap.size + 1 + 1 = w4.heap.size := by omega
          have n6 : ¬ w.heap.size + 1 + 1 = w4.heap.size + 1 := by omega
          rw [hW5] at k0 k1 k2 k3 x0 x1 y0 y1 r0 r1 r2 r3 kf xf yf rf
          go_wp2_with fail
          rw [← hW5]
          clear hW5
          try clear g0 g1 gf
          clear k0 k1 k2 k3 kf x0 x1 xf y0 y1 yf r0 r1 r2 r3 rf ne67 lt6 n1 n2 n3 n4 n5 n6
          with_reducible refine (span_at (0) _).mono ?_
          rintro e v11 ⟨rfl, hb⟩
          replace hS := hS.go hb
          clear hb
          obtain ⟨V11, hV11⟩ : ∃ X, X = (v11.setCell ⟨w4.heap.size + 1, 0, none⟩ (.int .i64 (0))).setCell ⟨w4.heap.size + 1, 1, none⟩ (.bool true) := ⟨_, rfl⟩
          have hS' := hS.put7 (0)
          rw [← hV11] at hS'
          obtain ⟨g0, g1, gf⟩ := id hS.y
          clear hS
          have hS := hS'
          clear hS'
          have HF2 := Lib.hid (show R = toR (1 - k) true (0) true by rw [HF.out, show (false && decide (0 ≤ l)) = false from rfl, dz]; rfl)
          clear HF
          obtain ⟨k0, k1, k2, k3, kf⟩ := id hS.a
          obtain ⟨x0, x1, xf⟩ := id hS.x
          obtain ⟨y0, y1, yf⟩ := id hS.y
          obtain ⟨r0, r1, r2, r3, rf⟩ := id hS.r
          have ne67 := hS.ne
          have lt6 := hS.lt
          have n1 : ¬ w4.heap.size = w4.heap.size + 1 := by omega
          have n2 : ¬ w4.heap.size + 1 = w4.heap.size := by omega
          have n3 : ¬ w.heap.size = w4.heap.size := by omega
          have n4 : ¬ w.heap.size = w4.heap.size + 1 := by omega
          have n5 : ¬ w.heap.size + 1 + 1 = w4.heap.size := by omega
          have n6 : ¬ w.heap.size + 1 + 1 = w4.heap.size + 1 := by omega
          rw [hV11] at k0 k1 k2 k3 x0 x1 y0 y1 r0 r1 r2 r3 kf xf yf rf
          go_wp2_with fail
          rw [← hV11]
          clear hV11
          try clear g0 g1 gf
          clear k0 k1 k2 k3 kf x0 x1 xf y0 y1 yf r0 r1 r2 r3 rf ne67 lt6 n1 n2 n3 n4 n5 n6
          with_reducible refine (end_to (1 - k) (0) true true _ R HF2.out).mono ?_
          rintro e w9 ⟨rfl, hb⟩
          replace hS := hS.go hb
          clear hb
          obtain ⟨r0, r1, r2, r3, rf⟩ := id hS.r
          have hL := hS.below
          clear hS
          go_wp2_with fail
          refine bodyPost_ret (v := .agg #[.int .i64 R.lo, .int .i64 R.hi, .bool R.hl, .bool R.hh]) (by simp [results, Try.results51, go_sem, r0, r1, r2, r3]) rfl ⟨rfl, ?_⟩
          exact (((hL.setCell (by simp; omega) _).setCell (by simp; omega) _).setCell (by simp; omega) _).setCell (by simp; omega) _
        · have dz : decide (h ≤ 0) = false := decide_eq_false hz
          have HF2 := Lib.hid (show R = toR (1 - k) true (k - 1) true by rw [HF.out, show (false && decide (0 ≤ l)) = false from rfl, dz]; rfl)
          clear HF
          obtain ⟨k0, k1, k2, k3, kf⟩ := id hS.a
          obtain ⟨x0, x1, xf⟩ := id hS.x
          obtain ⟨y0, y1, yf⟩ := id hS.y
          obtain ⟨r0, r1, r2, r3, rf⟩ := id hS.r
          have ne67 := hS.ne
          have lt6 := hS.lt
          have n1 : ¬ w4.heap.size = w4.heap.size + 1 := by omega
          have n2 : ¬ w4.heap.size + 1 = w4.heap.size := by omega
          have n3 : ¬ w.heap.size = w4.heap.size := by omega
          have n4 : ¬ w.heap.size = w4.heap.size + 1 := by omega
          have n5 : ¬ w.heap.size + 1 + 1 = w4.heap.size := by omega
          have n6 : ¬ w.heap.size + 1 + 1 = w4.heap.size + 1 := by omega
          rw [hW5] at k0 k1 k2 k3 x0 x1 y0 y1 r0 r1 r2 r3 kf xf yf rf
          go_wp2_with fail
          rw [← hW5]
          clear hW5
          try clear g0 g1 gf
          clear k0 k1 k2 k3 kf x0 x1 xf y0 y1 yf r0 r1 r2 r3 rf ne67 lt6 n1 n2 n3 n4 n5 n6
          with_reducible refine (end_to (1 - k) (k - 1) true true _ R HF2.out).mono ?_
          rintro e w9 ⟨rfl, hb⟩
          replace hS := hS.go hb
          clear hb
          obtain ⟨r0, r1, r2, r3, rf⟩ := id hS.r
          have hL := hS.below
          clear hS
          go_wp2_with fail
          refine bodyPost_ret (v := .agg #[.int .i64 R.lo, .int .i64 R.hi, .bool R.hl, .bool R.hh]) (by simp [results, Try.results51, go_sem, r0, r1, r2, r3]) rfl ⟨rfl, ?_⟩
          exact (((hL.setCell (by simp; omega) _).setCell (by simp; omega) _).setCell (by simp; omega) _).setCell (by simp; omega) _
    · by_cases hl : 0 ≤ l
      · have dl : decide (0 ≤ l) = true := decide_eq_true hl
        obtain ⟨k0, k1, k2, k3, kf⟩ := id hS.a
        obtain ⟨x0, x1, xf⟩ := id hS.x
        obtain ⟨y0, y1, yf⟩ := id hS.y
        obtain ⟨r0, r1, r2, r3, rf⟩ := id hS.r
        have ne67 := hS.ne
        have lt6 := hS.lt
        have n1 : ¬ w4.heap.size = w4.heap.size + 1 := by omega
        have n2 : ¬ w4.heap.size + 1 = w4.heap.size := by omega
        have n3 : ¬ w.heap.size = w4.heap.size := by omega
        have n4 : ¬ w.heap.size = w4.heap.size + 1 := by omega
        have n5 : ¬ w.heap.size + 1 + 1 = w4.heap.size := by omega
        have n6 : ¬ w.heap.size + 1 + 1 = w4.heap.size + 1 := by omega
        rw [hW5] at k0 k1 k2 k3 x0 x1 y0 y1 r0 r1 r2 r3 kf xf yf rf
        go_wp2_with fail
        rw [← hW5]
        clear hW5
        try clear g0 g1 gf
        clear k0 k1 k2 k3 kf x0 x1 xf y0 y1 yf r0 r1 r2 r3 rf ne67 lt6 n1 n2 n3 n4 n5 n6
        with_reducible refine (span_at (0) _).mono ?_
        rintro e v12 ⟨rfl, hb⟩
        replace hS := hS.go hb
        clear hb
        obtain ⟨V12, hV12⟩ : ∃ X, X = (v12.setCell ⟨w4.heap.size, 0, none⟩ (.int .i64 (0))).setCell ⟨w4.heap.size, 1, none⟩ (.bool true) := ⟨_, rfl⟩
        have hS' := hS.put6 (0)
        rw [← hV12] at hS'
        obtain ⟨g0, g1, gf⟩ := id hS.x
        clear hS
        have hS := hS'
        clear hS'
        cases q
        · skip
          have HF2 := Lib.hid (show R = toR (0) true (k - 1) true by rw [HF.out, show (true && decide (0 ≤ l)) = true from dl]; rfl)
          clear HF
          obtain ⟨k0, k1, k2, k3, kf⟩ := id hS.a
          obtain ⟨x0, x1, xf⟩ := id hS.x
          obtain ⟨y0, y1, yf⟩ := id hS.y
          obtain ⟨r0, r1, r2, r3, rf⟩ := id hS.r
          have ne67 := hS.ne
          have lt6 := hS.lt
          have n1 : ¬ w4.heap.size = w4.heap.size + 1 := by omega
          have n2 : ¬ w4.heap.size + 1 = w4.heap.size := by omega
          have n3 : ¬ w.heap.size = w4.heap.size := by omega
          have n4 : ¬ w.heap.size = w4.heap.size + 1 := by omega
          have n5 : ¬ w.heap.size + 1 + 1 = w4.heap.size := by omega
          have n6 : ¬ w.heap.size + 1 + 1 = w4.heap.size + 1 := by omega
          rw [hV12] at k0 k1 k2 k3 x0 x1 y0 y1 r0 r1 r2 r3 kf xf yf rf
          go_wp2_with fail
          rw [← hV12]
          clear hV12
          try clear g0 g1 gf
          clear k0 k1 k2 k3 kf x0 x1 xf y0 y1 yf r0 r1 r2 r3 rf ne67 lt6 n1 n2 n3 n4 n5 n6
          with_reducible refine (end_to (0) (k - 1) true true _ R HF2.out).mono ?_
          rintro e w9 ⟨rfl, hb⟩
          replace hS := hS.go hb
          clear hb
          obtain ⟨r0, r1, r2, r3, rf⟩ := id hS.r
          have hL := hS.below
          clear hS
          go_wp2_with fail
          refine bodyPost_ret (v := .agg #[.int .i64 R.lo, .int .i64 R.hi, .bool R.hl, .bool R.hh]) (by simp [results, Try.results51, go_sem, r0, r1, r2, r3]) rfl ⟨rfl, ?_⟩
          exact (((hL.setCell (by simp; omega) _).setCell (by simp; omega) _).setCell (by simp; omega) _).setCell (by simp; omega) _
        · by_cases hz : h ≤ 0
          · have dz : decide (h ≤ 0) = true := decide_eq_true hz
            obtain ⟨k0, k1, k2, k3, kf⟩ := id hS.a
            obtain ⟨x0, x1, xf⟩ := id hS.x
            obtain ⟨y0, y1, yf⟩ := id hS.y
            obtain ⟨r0, r1, r2, r3, rf⟩ := id hS.r
            have ne67 := hS.ne
            have lt6 := hS.lt
            have n1 : ¬ w4.heap.size = w4.heap.size + 1 := by omega
            have n2 : ¬ w4.heap.size + 1 = w4.heap.size := by omega
            have n3 : ¬ w.heap.size = w4.heap.size := by omega
            have n4 : ¬ w.heap.size = w4.heap.size + 1 := by omega
            have n5 : ¬ w.heap.size + 1 + 1 = w4.heap.size := by omega
            have n6 : ¬ w.heap.size + 1 + 1 = w4.heap.size + 1 := by omega
            rw [hV12] at k0 k1 k2 k3 x0 x1 y0 y1 r0 r1 r2 r3 kf xf yf rf
            go_wp2_with fail
            rw [← hV12]
            clear hV12
            try clear g0 g1 gf
            clear k0 k1 k2 k3 kf x0 x1 xf y0 y1 yf r0 r1 r2 r3 rf ne67 lt6 n1 n2 n3 n4 n5 n6
            with_reducible refine (span_at (0) _).mono ?_
            rintro e v13 ⟨rfl, hb⟩
            replace hS := hS.go hb
            clear hb
            obtain ⟨V13, hV13⟩ : ∃ X, X = (v13.setCell ⟨w4.heap.size + 1, 0, none⟩ (.int .i64 (0))).setCell ⟨w4.heap.size + 1, 1, none⟩ (.bool true) := ⟨_, rfl⟩
            have hS' := hS.put7 (0)
            rw [← hV13] at hS'
            obtain ⟨g0, g1, gf⟩ := id hS.y
            clear hS
            have hS := hS'
            clear hS'
            have HF2 := Lib.hid (show R = toR (0) true (0) true by rw [HF.out, show (true && decide (0 ≤ l)) = true from dl, dz]; rfl)
            clear HF
            obtain ⟨k0, k1, k2, k3, kf⟩ := id hS.a
            obtain ⟨x0, x1, xf⟩ := id hS.x
            obtain ⟨y0, y1, yf⟩ := id hS.y
            obtain ⟨r0, r1, r2, r3, rf⟩ := id hS.r
            have ne67 := hS.ne
            have lt6 := hS.lt
            have n1 : ¬ w4.heap.size = w4.heap.size + 1 := by omega
            have n2 : ¬ w4.heap.size + 1 = w4.heap.size := by omega
            have n3 : ¬ w.heap.size = w4.heap.size := by omega
            have n4 : ¬ w.heap.size = w4.heap.size + 1 := by omega
            have n5 : ¬ w.heap.size + 1 + 1 = w4.heap.size := by omega
            have n6 : ¬ w.heap.size + 1 + 1 = w4.heap.size + 1 := by omega
            rw [hV13] at k0 k1 k2 k3 x0 x1 y0 y1 r0 r1 r2 r3 kf xf yf rf
            go_wp2_with fail
            rw [← hV13]
            clear hV13
            try clear g0 g1 gf
            clear k0 k1 k2 k3 kf x0 x1 xf y0 y1 yf r0 r1 r2 r3 rf ne67 lt6 n1 n2 n3 n4 n5 n6
            with_reducible refine (end_to (0) (0) true true _ R HF2.out).mono ?_
            rintro e w9 ⟨rfl, hb⟩
            replace hS := hS.go hb
            clear hb
            obtain ⟨r0, r1, r2, r3, rf⟩ := id hS.r
            have hL := hS.below
            clear hS
            go_wp2_with fail
            refine bodyPost_ret (v := .agg #[.int .i64 R.lo, .int .i64 R.hi, .bool R.hl, .bool R.hh]) (by simp [results, Try.results51, go_sem, r0, r1, r2, r3]) rfl ⟨rfl, ?_⟩
            exact (((hL.setCell (by simp; omega) _).setCell (by simp; omega) _).setCell (by simp; omega) _).setCell (by simp; omega) _
          · have dz : decide (h ≤ 0) = false := decide_eq_false hz
            by_cases hm : h < k - 1
            · have HM := Lib.hid (show min (k - 1) h = h by omega)
              obtain ⟨k0, k1, k2, k3, kf⟩ := id hS.a
              obtain ⟨x0, x1, xf⟩ := id hS.x
              obtain ⟨y0, y1, yf⟩ := id hS.y
              obtain ⟨r0, r1, r2, r3, rf⟩ := id hS.r
              have ne67 := hS.ne
              have lt6 := hS.lt
              have n1 : ¬ w4.heap.size = w4.heap.size + 1 := by omega
              have n2 : ¬ w4.heap.size + 1 = w4.heap.size := by omega
              have n3 : ¬ w.heap.size = w4.heap.size := by omega
              have n4 : ¬ w.heap.size = w4.heap.size + 1 := by omega
              have n5 : ¬ w.heap.size + 1 + 1 = w4.heap.size := by omega
              have n6 : ¬ w.heap.size + 1 + 1 = w4.heap.size + 1 := by omega
              rw [hV12] at k0 k1 k2 k3 x0 x1 y0 y1 r0 r1 r2 r3 kf xf yf rf
              go_wp2_with fail
              rw [← hV12]
              clear hV12
              try clear g0 g1 gf
              clear k0 k1 k2 k3 kf x0 x1 xf y0 y1 yf r0 r1 r2 r3 rf ne67 lt6 n1 n2 n3 n4 n5 n6
              with_reducible refine (span_at (h) _).mono ?_
              rintro e v14 ⟨rfl, hb⟩
              replace hS := hS.go hb
              clear hb
              obtain ⟨V14, hV14⟩ : ∃ X, X = (v14.setCell ⟨w4.heap.size + 1, 0, none⟩ (.int .i64 (h))).setCell ⟨w4.heap.size + 1, 1, none⟩ (.bool true) := ⟨_, rfl⟩
              have hS' := hS.put7 (h)
              rw [← hV14] at hS'
              obtain ⟨g0, g1, gf⟩ := id hS.y
              clear hS
              have hS := hS'
              clear hS'
              have HF2 := Lib.hid (show R = toR (0) true (h) true by rw [HF.out, show (true && decide (0 ≤ l)) = true from dl, dz, HM.out]; rfl)
              clear HF
              obtain ⟨k0, k1, k2, k3, kf⟩ := id hS.a
              obtain ⟨x0, x1, xf⟩ := id hS.x
              obtain ⟨y0, y1, yf⟩ := id hS.y
              obtain ⟨r0, r1, r2, r3, rf⟩ := id hS.r
              have ne67 := hS.ne
              have lt6 := hS.lt
              have n1 : ¬ w4.heap.size = w4.heap.size + 1 := by omega
              have n2 : ¬ w4.heap.size + 1 = w4.heap.size := by omega
              have n3 : ¬ w.heap.size = w4.heap.size := by omega
              have n4 : ¬ w.heap.size = w4.heap.size + 1 := by omega
              have n5 : ¬ w.heap.size + 1 + 1 = w4.heap.size := by omega
              have n6 : ¬ w.heap.size + 1 + 1 = w4.heap.size + 1 := by omega
              rw [hV14] at k0 k1 k2 k3 x0 x1 y0 y1 r0 r1 r2 r3 kf xf yf rf
              go_wp2_with fail
              rw [← hV14]
              clear hV14
              try clear g0 g1 gf
              clear k0 k1 k2 k3 kf x0 x1 xf y0 y1 yf r0 r1 r2 r3 rf ne67 lt6 n1 n2 n3 n4 n5 n6
              with_reducible refine (end_to (0) (h) true true _ R HF2.out).mono ?_
              rintro e w9 ⟨rfl, hb⟩
              replace hS := hS.go hb
              clear hb
              obtain ⟨r0, r1, r2, r3, rf⟩ := id hS.r
              have hL := hS.below
              clear hS
              go_wp2_with fail
              refine bodyPost_ret (v := .agg #[.int .i64 R.lo, .int .i64 R.hi, .bool R.hl, .bool R.hh]) (by simp [results, Try.results51, go_sem, r0, r1, r2, r3]) rfl ⟨rfl, ?_⟩
              exact (((hL.setCell (by simp; omega) _).setCell (by simp; omega) _).setCell (by simp; omega) _).setCell (by simp; omega) _
            · have HM := Lib.hid (show min (k - 1) h = k - 1 by omega)
              obtain ⟨k0, k1, k2, k3, kf⟩ := id hS.a
              obtain ⟨x0, x1, xf⟩ := id hS.x
              obtain ⟨y0, y1, yf⟩ := id hS.y
              obtain ⟨r0, r1, r2, r3, rf⟩ := id hS.r
              have ne67 := hS.ne
              have lt6 := hS.lt
              have n1 : ¬ w4.heap.size = w4.heap.size + 1 := by omega
              have n2 : ¬ w4.heap.size + 1 = w4.heap.size := by omega
              have n3 : ¬ w.heap.size = w4.heap.size := by omega
              have n4 : ¬ w.heap.size = w4.heap.size + 1 := by omega
              have n5 : ¬ w.heap.size + 1 + 1 = w4.heap.size := by omega
              have n6 : ¬ w.heap.size + 1 + 1 = w4.heap.size + 1 := by omega
              rw [hV12] at k0 k1 k2 k3 x0 x1 y0 y1 r0 r1 r2 r3 kf xf yf rf
              go_wp2_with fail
              rw [← hV12]
              clear hV12
              try clear g0 g1 gf
              clear k0 k1 k2 k3 kf x0 x1 xf y0 y1 yf r0 r1 r2 r3 rf ne67 lt6 n1 n2 n3 n4 n5 n6
              with_reducible refine (span_at (k - 1) _).mono ?_
              rintro e v15 ⟨rfl, hb⟩
              replace hS := hS.go hb
              clear hb
              obtain ⟨V15, hV15⟩ : ∃ X, X = (v15.setCell ⟨w4.heap.size + 1, 0, none⟩ (.int .i64 (k - 1))).setCell ⟨w4.heap.size + 1, 1, none⟩ (.bool true) := ⟨_, rfl⟩
              have hS' := hS.put7 (k - 1)
              rw [← hV15] at hS'
              obtain ⟨g0, g1, gf⟩ := id hS.y
              clear hS
              have hS := hS'
              clear hS'
              have HF2 := Lib.hid (show R = toR (0) true (k - 1) true by rw [HF.out, show (true && decide (0 ≤ l)) = true from dl, dz, HM.out]; rfl)
              clear HF
              obtain ⟨k0, k1, k2, k3, kf⟩ := id hS.a
              obtain ⟨x0, x1, xf⟩ := id hS.x
              obtain ⟨y0, y1, yf⟩ := id hS.y
              obtain ⟨r0, r1, r2, r3, rf⟩ := id hS.r
              have ne67 := hS.ne
              have lt6 := hS.lt
              have n1 : ¬ w4.heap.size = w4.heap.size + 1 := by omega
              have n2 : ¬ w4.heap.size + 1 = w4.heap.size := by omega
              have n3 : ¬ w.heap.size = w4.heap.size := by omega
              have n4 : ¬ w.heap.size = w4.heap.size + 1 := by omega
              have n5 : ¬ w.heap.size + 1 + 1 = w4.heap.size := by omega
              have n6 : ¬ w.heap.size + 1 + 1 = w4.heap.size + 1 := by omega
              rw [hV15] at k0 k1 k2 k3 x0 x1 y0 y1 r0 r1 r2 r3 kf xf yf rf
              go_wp2_with fail
              rw [← hV15]
              clear hV15
              try clear g0 g1 gf
              clear k0 k1 k2 k3 kf x0 x1 xf y0 y1 yf r0 r1 r2 r3 rf ne67 lt6 n1 n2 n3 n4 n5 n6
              with_reducible refine (end_to (0) (k - 1) true true _ R HF2.out).mono ?_
              rintro e w9 ⟨rfl, hb⟩
              replace hS := hS.go hb
              clear hb
              obtain ⟨r0, r1, r2, r3, rf⟩ := id hS.r
              have hL := hS.below
              clear hS
              go_wp2_with fail
              refine bodyPost_ret (v := .agg #[.int .i64 R.lo, .int .i64 R.hi, .bool R.hl, .bool R.hh]) (by simp [results, Try.results51, go_sem, r0, r1, r2, r3]) rfl ⟨rfl, ?_⟩
              exact (((hL.setCell (by simp; omega) _).setCell (by simp; omega) _).setCell (by simp; omega) _).setCell (by simp; omega) _
      · have dl : decide (0 ≤ l) = false := decide_eq_false hl
        cases q
        · skip
          have HF2 := Lib.hid (show R = toR (1 - k) true (k - 1) true by rw [HF.out, show (true && decide (0 ≤ l)) = false from dl]; rfl)
          clear HF
          obtain ⟨k0, k1, k2, k3, kf⟩ := id hS.a
          obtain ⟨x0, x1, xf⟩ := id hS.x
          obtain ⟨y0, y1, yf⟩ := id hS.y
          obtain ⟨r0, r1, r2, r3, rf⟩ := id hS.r
          have ne67 := hS.ne
          have lt6 := hS.lt
          have n1 : ¬ w4.heap.size = w4.heap.size + 1 := by omega
          have n2 : ¬ w4.heap.size + 1 = w4.heap.size := by omega
          have n3 : ¬ w.heap.size = w4.heap.size := by omega
          have n4 : ¬ w.heap.size = w4.heap.size + 1 := by omega
          have n5 : ¬ w.heap.size + 1 + 1 = w4.heap.size := by omega
          have n6 : ¬ w.heap.size + 1 + 1 = w4.heap.size + 1 := by omega
          rw [hW5] at k0 k1 k2 k3 x0 x1 y0 y1 r0 r1 r2 r3 kf xf yf rf
          go_wp2_with fail
          rw [← hW5]
          clear hW5
          try clear g0 g1 gf
          clear k0 k1 k2 k3 kf x0 x1 xf y0 y1 yf r0 r1 r2 r3 rf ne67 lt6 n1 n2 n3 n4 n5 n6
          with_reducible refine (end_to (1 - k) (k - 1) true true _ R HF2.out).mono ?_
          rintro e w9 ⟨rfl, hb⟩
          replace hS := hS.go hb
          clear hb
          obtain ⟨r0, r1, r2, r3, rf⟩ := id hS.r
          have hL := hS.below
          clear hS
          go_wp2_with fail
          refine bodyPost_ret (v := .agg #[.int .i64 R.lo, .int .i64 R.hi, .bool R.hl, .bool R.hh]) (by simp [results, Try.results51, go_sem, r0, r1, r2, r3]) rfl ⟨rfl, ?_⟩
          exact (((hL.setCell (by simp; omega) _).setCell (by simp; omega) _).setCell (by simp; omega) _).setCell (by simp; omega) _
        · by_cases hz : h ≤ 0
          · have dz : decide (h ≤ 0) = true := decide_eq_true hz
            obtain ⟨k0, k1, k2, k3, kf⟩ := id hS.a
            obtain ⟨x0, x1, xf⟩ := id hS.x
            obtain ⟨y0, y1, yf⟩ := id hS.y
            obtain ⟨r0, r1, r2, r3, rf⟩ := id hS.r
            have ne67 := hS.ne
            have lt6 := hS.lt
            have n1 : ¬ w4.heap.size = w4.heap.size + 1 := by omega
            have n2 : ¬ w4.heap.size + 1 = w4.heap.size := by omega
            have n3 : ¬ w.heap.size = w4.heap.size := by omega
            have n4 : ¬ w.heap.size = w4.heap.size + 1 := by omega
            have n5 : ¬ w.heap.size + 1 + 1 = w4.heap.size := by omega
            have n6 : ¬ w.heap.size + 1 + 1 = w4.heap.size + 1 := by omega
            rw [hW5] at k0 k1 k2 k3 x0 x1 y0 y1 r0 r1 r2 r3 kf xf yf rf
            go_wp2_with fail
            rw [← hW5]
            clear hW5
            try clear g0 g1 gf
            clear k0 k1 k2 k3 kf x0 x1 xf y0 y1 yf r0 r1 r2 r3 rf ne67 lt6 n1 n2 n3 n4 n5 n6
            with_reducible refine (span_at (0) _).mono ?_
            rintro e v16 ⟨rfl, hb⟩
            replace hS := hS.go hb
            clear hb
            obtain ⟨V16, hV16⟩ : ∃ X, X = (v16.setCell ⟨w4.heap.size + 1, 0, none⟩ (.int .i64 (0))).setCell ⟨w4.heap.size + 1, 1, none⟩ (.bool true) := ⟨_, rfl⟩
            have hS' := hS.put7 (0)
            rw [← hV16] at hS'
            obtain ⟨g0, g1, gf⟩ := id hS.y
            clear hS
            have hS := hS'
            clear hS'
            have HF2 := Lib.hid (show R = toR (1 - k) true (0) true by rw [HF.out, show (true && decide (0 ≤ l)) = false from dl, dz]; rfl)
            clear HF
            obtain ⟨k0, k1, k2, k3, kf⟩ := id hS.a
            obtain ⟨x0, x1, xf⟩ := id hS.x
            obtain ⟨y0, y1, yf⟩ := id hS.y
            obtain ⟨r0, r1, r2, r3, rf⟩ := id hS.r
            have ne67 := hS.ne
            have lt6 := hS.lt
            have n1 : ¬ w4.heap.size = w4.heap.size + 1 := by omega
            have n2 : ¬ w4.heap.size + 1 = w4.heap.size := by omega
            have n3 : ¬ w.heap.size = w4.heap.size := by omega
            have n4 : ¬ w.heap.size = w4.heap.size + 1 := by omega
            have n5 : ¬ w.heap.size + 1 + 1 = w4.heap.size := by omega
            have n6 : ¬ w.heap.size + 1 + 1 = w4.heap.size + 1 := by omega
            rw [hV16] at k0 k1 k2 k3 x0 x1 y0 y1 r0 r1 r2 r3 kf xf yf rf
            go_wp2_with fail
            rw [← hV16]
            clear hV16
            try clear g0 g1 gf
            clear k0 k1 k2 k3 kf x0 x1 xf y0 y1 yf r0 r1 r2 r3 rf ne67 lt6 n1 n2 n3 n4 n5 n6
            with_reducible refine (end_to (1 - k) (0) true true _ R HF2.out).mono ?_
            rintro e w9 ⟨rfl, hb⟩
            replace hS := hS.go hb
            clear hb
            obtain ⟨r0, r1, r2, r3, rf⟩ := id hS.r
            have hL := hS.below
            clear hS
            go_wp2_with fail
            refine bodyPost_ret (v := .agg #[.int .i64 R.lo, .int .i64 R.hi, .bool R.hl, .bool R.hh]) (by simp [results, Try.results51, go_sem, r0, r1, r2, r3]) rfl ⟨rfl, ?_⟩
            exact (((hL.setCell (by simp; omega) _).setCell (by simp; omega) _).setCell (by simp; omega) _).setCell (by simp; omega) _
          · have dz : decide (h ≤ 0) = false := decide_eq_false hz
            have HF2 := Lib.hid (show R = toR (1 - k) true (k - 1) true by rw [HF.out, show (true && decide (0 ≤ l)) = false from dl, dz]; rfl)
            clear HF
            obtain ⟨k0, k1, k2, k3, kf⟩ := id hS.a
            obtain ⟨x0, x1, xf⟩ := id hS.x
            obtain ⟨y0, y1, yf⟩ := id hS.y
            obtain ⟨r0, r1, r2, r3, rf⟩ := id hS.r
            have ne67 := hS.ne
            have lt6 := hS.lt
            have n1 : ¬ w4.heap.size = w4.heap.size + 1 := by omega
            have n2 : ¬ w4.heap.size + 1 = w4.heap.size := by omega
            have n3 : ¬ w.heap.size = w4.heap.size := by omega
            have n4 : ¬ w.heap.size = w4.heap.size + 1 := by omega
            have n5 : ¬ w.heap.size + 1 + 1 = w4.heap.size := by omega
            have n6 : ¬ w.heap.size + 1 + 1 = w4.heap.size + 1 := by omega
            rw [hW5] at k0 k1 k2 k3 x0 x1 y0 y1 r0 r1 r2 r3 kf xf yf rf
            go_wp2_with fail
            rw [← hW5]
            clear hW5
            try clear g0 g1 gf
            clear k0 k1 k2 k3 kf x0 x1 xf y0 y1 yf r0 r1 r2 r3 rf ne67 lt6 n1 n2 n3 n4 n5 n6
            with_reducible refine (end_to (1 - k) (k - 1) true true _ R HF2.out).mono ?_
            rintro e w9 ⟨rfl, hb⟩
            replace hS := hS.go hb
            clear hb
            obtain ⟨r0, r1, r2, r3, rf⟩ := id hS.r
            have hL := hS.below
            clear hS
            go_wp2_with fail
            refine bodyPost_ret (v := .agg #[.int .i64 R.lo, .int .i64 R.hi, .bool R.hl, .bool R.hh]) (by simp [results, Try.results51, go_sem, r0, r1, r2, r3]) rfl ⟨rfl, ?_⟩
            exact (((hL.setCell (by simp; omega) _).setCell (by simp; omega) _).setCell (by simp; omega) _).setCell (by simp; omega) _
end Go.Proofs.Ytkogplnleiapfaa
