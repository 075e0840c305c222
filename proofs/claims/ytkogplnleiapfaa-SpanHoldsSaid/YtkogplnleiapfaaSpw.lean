/- The walks of span's and gnomonref15's functions over ranges. -/
import Derived.Test.YtkogplnleiapfaaSpn
import Derived.Test.YtkogplnleiapfaaNumW
import Derived.Test.YtkogplnleiapfaaMem
import Derived.Test.YtkogplnleiapfaaQb
import Derived.Lib.Hide
import Derived.Deep.QuietTactic
import Derived.BigQuiet
import Derived.Deep.RegionHeld3
namespace Go.Proofs.Ytkogplnleiapfaa
open Go.RowKit
set_option linter.unusedVariables false
set_option linter.unusedSimpArgs false
open Gn
theorem span_lo (l h : Int) (p q : Bool) (w : World) :
    Calls Try.prog 88 #[.agg #[.int .i64 l, .int .i64 h, .bool p, .bool q]] w fun e w' => e = .returned (.agg #[.int .i64 l, .bool p]) ∧ Below w.heap.size w w' := by
  go_enter Try.func88, Try.ntmps88
  go_wp2_with fail
  refine bodyPost_ret (v := .agg #[.int .i64 l, .bool p]) (by simp [results, Try.results88, go_sem]) rfl ⟨rfl, ?_⟩
  repeat (first | exact Below.refl _ _ | refine Below.setCell ?_ (by simp) _ | refine Below.alloc ?_ (by simp) _)
theorem span_hi (l h : Int) (p q : Bool) (w : World) :
    Calls Try.prog 89 #[.agg #[.int .i64 l, .int .i64 h, .bool p, .bool q]] w fun e w' => e = .returned (.agg #[.int .i64 h, .bool q]) ∧ Below w.heap.size w w' := by
  go_enter Try.func89, Try.ntmps89
  go_wp2_with fail
  refine bodyPost_ret (v := .agg #[.int .i64 h, .bool q]) (by simp [results, Try.results89, go_sem]) rfl ⟨rfl, ?_⟩
  repeat (first | exact Below.refl _ _ | refine Below.setCell ?_ (by simp) _ | refine Below.alloc ?_ (by simp) _)
theorem span_at (n : Int) (w : World) :
    Calls Try.prog 85 #[.int .i64 n] w fun e w' => e = .returned (.agg #[.int .i64 n, .bool true]) ∧ Below w.heap.size w w' := by
  go_enter Try.func85, Try.ntmps85
  go_wp2_with fail
  refine bodyPost_ret (v := .agg #[.int .i64 n, .bool true]) (by simp [results, Try.results85, go_sem]) rfl ⟨rfl, ?_⟩
  repeat (first | exact Below.refl _ _ | refine Below.setCell ?_ (by simp) _ | refine Below.alloc ?_ (by simp) _)
theorem end_to (n m : Int) (p q : Bool) (w : World) (R : Rg) (hR : R = toR n p m q) :
    Calls Try.prog 86 #[.agg #[.int .i64 n, .bool p], .agg #[.int .i64 m, .bool q]] w fun e w' => e = .returned (.agg #[.int .i64 R.lo, .int .i64 R.hi, .bool R.hl, .bool R.hh]) ∧ Below w.heap.size w w' := by
  subst hR
  rcases p with _ | _ <;> rcases q with _ | _
  all_goals
    go_enter Try.func86, Try.ntmps86
    go_wp2_with fail
    refine bodyPost_ret (v := .agg #[.int .i64 _, .int .i64 _, .bool _, .bool _]) (by simp [results, Try.results86, go_sem]; exact ⟨rfl, rfl, rfl, rfl⟩) rfl ⟨rfl, ?_⟩
    repeat (first | exact Below.refl _ _ | refine Below.setCell ?_ (by simp; omega) _ | refine Below.alloc ?_ (by simp; omega) _ | refine Below.setCell ?_ (by simp) _ | refine Below.alloc ?_ (by simp) _)
theorem end_near (n : Int) (p : Bool) (w : World) :
    Calls Try.prog 90 #[.agg #[.int .i64 n, .bool p]] w fun e w' => e = .returned (.bool (p && nearB n)) ∧ Below w.heap.size w w' := by
  rcases p with _ | _
  · go_enter Try.func90, Try.ntmps90
    go_wp2_with fail
    go_ret
    exact ⟨rfl, (Below.refl _ _).alloc (Nat.le_refl _) _⟩
  · have HN : Hid (nearB n = decide (-1073741824 ≤ n ∧ n ≤ 1073741824)) := Lib.hid rfl
    by_cases h1 : -1073741824 ≤ n
    · by_cases h2 : n ≤ 1073741824
      all_goals
        go_enter Try.func90, Try.ntmps90
        go_wp2_with fail
        go_ret
        exact ⟨by rw [HN.out]; simp [h1, h2], (Below.refl _ _).alloc (Nat.le_refl _) _⟩
    · go_enter Try.func90, Try.ntmps90
      go_wp2_with fail
      go_ret
      exact ⟨by rw [HN.out, decide_eq_false (fun k => by omega)]; rfl, (Below.refl _ _).alloc (Nat.le_refl _) _⟩
theorem retR {R : Rg} {l h : Int} {p q : Bool} (e : R = ⟨l, h, p, q⟩) : Ending.returned (.agg #[.int .i64 l, .int .i64 h, .bool p, .bool q]) = .returned (.agg #[.int .i64 R.lo, .int .i64 R.hi, .bool R.hl, .bool R.hh]) := by subst e; rfl
theorem retB {x y : Bool} (e : x = y) : Ending.returned (.bool x) = .returned (.bool y) := by rw [e]
theorem retI {k : IntKind} {x y : Int} (e : x = y) : Ending.returned (.int k x) = .returned (.int k y) := by rw [e]
theorem ref15_near (n : Int) (w : World) :
    Calls Try.prog 91 #[.int .i64 n] w fun e w' => e = .returned (.bool (nearB n)) ∧ w = w' := by
  have HN : Hid (nearB n = decide (-1073741824 ≤ n ∧ n ≤ 1073741824)) := Lib.hid rfl
  by_cases h1 : -1073741824 ≤ n
  · by_cases h2 : n ≤ 1073741824
    all_goals
      go_enter Try.func91, Try.ntmps91
      go_wp2_with fail
      go_ret
      exact ⟨retB (by rw [HN.out]; simp [h1, h2]), rfl⟩
  · go_enter Try.func91, Try.ntmps91
    go_wp2_with fail
    go_ret
    exact ⟨retB (by rw [HN.out, decide_eq_false (fun k => by omega)]), rfl⟩
theorem span_Has (l h : Int) (p q : Bool) (x : Int) (w : World) :
    Calls Try.prog 53 #[.agg #[.int .i64 l, .int .i64 h, .bool p, .bool q], .int .i64 x] w fun e w' => e = .returned (.bool (hasR ⟨l, h, p, q⟩ x)) ∧ Below w.heap.size w w' := by
  have HN : Hid (hasR ⟨l, h, p, q⟩ x = (!(p && decide (x < l)) && !(q && decide (h < x)))) := Lib.hid rfl
  cases p <;> cases q <;> by_cases h1 : x < l <;> by_cases h2 : h < x
  all_goals
    go_enter Try.func53, Try.ntmps53
    go_wp2_with fail
    go_ret
    exact ⟨retB (by rw [HN.out]; simp [h1, h2]), (Below.refl _ _).alloc (Nat.le_refl _) _⟩
theorem ref15_Has (l h : Int) (p q : Bool) (x : Int) (w : World) :
    Calls Try.prog 54 #[.agg #[.int .i64 l, .int .i64 h, .bool p, .bool q], .int .i64 x] w fun e w' => e = .returned (.bool (hasR ⟨l, h, p, q⟩ x)) ∧ Below w.heap.size w w' := by
  have HN : Hid (hasR ⟨l, h, p, q⟩ x = (!(p && decide (x < l)) && !(q && decide (h < x)))) := Lib.hid rfl
  cases p <;> cases q <;> by_cases h1 : l ≤ x <;> by_cases h2 : x ≤ h
  all_goals
    go_enter Try.func54, Try.ntmps54
    go_wp2_with fail
    go_ret
    exact ⟨retB (by rw [HN.out]; simp; try omega), (Below.refl _ _).alloc (Nat.le_refl _) _⟩
def divB (r : Rg) : Bool := r.hl && (r.hh && (decide (r.lo = r.hi) && decide (0 < r.lo)))
theorem oneV_yes {r : Rg} (h : divB r = true) : oneV r = r.lo ∧ 0 < r.lo := by
  unfold divB at h; unfold oneV
  rw [if_pos h]
  simp only [Bool.and_eq_true, decide_eq_true_eq] at h
  exact ⟨rfl, h.2.2.2⟩
theorem oneV_no {r : Rg} (h : divB r = false) : oneV r = 0 := by
  unfold divB at h; unfold oneV
  rw [if_neg (by rw [h]; simp)]
theorem ref15_divisor (l h : Int) (p q : Bool) (w : World) :
    Calls Try.prog 94 #[.agg #[.int .i64 l, .int .i64 h, .bool p, .bool q]] w fun e w' => e = .returned (.bool (divB ⟨l, h, p, q⟩)) ∧ Below w.heap.size w w' := by
  have HN : Hid (divB ⟨l, h, p, q⟩ = (p && (q && (decide (l = h) && decide (0 < l))))) := Lib.hid rfl
  cases p
  · go_enter Try.func94, Try.ntmps94
    go_wp2_with fail
    go_ret
    exact ⟨retB (by rw [HN.out]; rfl), (Below.refl _ _).alloc (Nat.le_refl _) _⟩
  · cases q
    · go_enter Try.func94, Try.ntmps94
      go_wp2_with fail
      go_ret
      exact ⟨retB (by rw [HN.out]; rfl), (Below.refl _ _).alloc (Nat.le_refl _) _⟩
    · by_cases h1 : l = h
      · have d1 : (l == h) = true := beq_iff_eq.2 h1
        have HN2 := Lib.hid (show divB ⟨l, h, true, true⟩ = decide (0 < l) by rw [HN.out, decide_eq_true h1]; rfl)
        clear h1 HN
        by_cases h2 : 0 < l
        · have HN3 := Lib.hid (show divB ⟨l, h, true, true⟩ = true by rw [HN2.out, decide_eq_true h2])
          go_enter Try.func94, Try.ntmps94
          go_wp2_with fail
          go_ret
          exact ⟨retB HN3.out.symm, (Below.refl _ _).alloc (Nat.le_refl _) _⟩
        · have HN3 := Lib.hid (show divB ⟨l, h, true, true⟩ = false by rw [HN2.out, decide_eq_false h2])
          go_enter Try.func94, Try.ntmps94
          go_wp2_with fail
          go_ret
          exact ⟨retB HN3.out.symm, (Below.refl _ _).alloc (Nat.le_refl _) _⟩
      · have d1 : (l == h) = false := beq_eq_false_iff_ne.2 h1
        have HN2 := Lib.hid (show divB ⟨l, h, true, true⟩ = false by rw [HN.out, decide_eq_false h1]; rfl)
        clear h1 HN
        go_enter Try.func94, Try.ntmps94
        go_wp2_with fail
        go_ret
        exact ⟨retB HN2.out.symm, (Below.refl _ _).alloc (Nat.le_refl _) _⟩
theorem rg_box (w : World) (t : TypeId) (l h : Int) (p q : Bool) : (w.alloc (.cells #[.int .i64 l, .int .i64 h, .bool p, .bool q] t)).cell? ⟨w.heap.size, 0, none⟩ = some (.int .i64 l) ∧ (w.alloc (.cells #[.int .i64 l, .int .i64 h, .bool p, .bool q] t)).cell? ⟨w.heap.size, 1, none⟩ = some (.int .i64 h) ∧
    (w.alloc (.cells #[.int .i64 l, .int .i64 h, .bool p, .bool q] t)).cell? ⟨w.heap.size, 2, none⟩ = some (.bool p) ∧ (w.alloc (.cells #[.int .i64 l, .int .i64 h, .bool p, .bool q] t)).cell? ⟨w.heap.size, 3, none⟩ = some (.bool q) :=
  ⟨by simp [World.cell?_alloc_new], by simp [World.cell?_alloc_new], by simp [World.cell?_alloc_new], by simp [World.cell?_alloc_new]⟩
set_option maxHeartbeats 4000000 in
theorem span_one (l h : Int) (p q : Bool) (w : World) :
    Calls Try.prog 92 #[.agg #[.int .i64 l, .int .i64 h, .bool p, .bool q]] w fun e w' => e = .returned (.int .i64 (oneV ⟨l, h, p, q⟩)) ∧ Below w.heap.size w w' := by
  obtain ⟨R, hR⟩ : ∃ R, oneV ⟨l, h, p, q⟩ = R := ⟨_, rfl⟩
  rw [hR]
  have HN := Lib.hid (show R = if (p && (q && (decide (l = h) && decide (0 < l)))) = true then l else 0 by rw [← hR]; rfl)
  clear hR
  have c1 := fun X => span_lo l h p q X
  have c2 := fun X => span_hi l h p q X
  go_enter Try.func92, Try.ntmps92
  go_wp2_with fail
  obtain ⟨k0, k1, k2, k3⟩ := rg_box w 50 l h p q
  have hB : Below w.heap.size w (w.alloc (.cells #[.int .i64 l, .int .i64 h, .bool p, .bool q] 50)) := (Below.refl _ _).alloc (Nat.le_refl _) _
  generalize w.alloc (.cells #[.int .i64 l, .int .i64 h, .bool p, .bool q] 50) = W at *
  have a0 := After.cell k0
  have a1 := After.cell k1
  have a2 := After.cell k2
  have a3 := After.cell k3
  have f0 : ∀ X : World, (Instr.field 99 (.agg #[.int .i64 l, .bool p]) 1).run Try.prog X = .ok (.bool p) X := fun X => by kernel_rfl
  cases p
  · have HF := Lib.hid (show R = 0 by rw [HN.out]; rfl)
    refine wp_region_after (by kernel_rfl) (by kernel_rfl) ?_
    repeat (go_big_quiet_step (first | (go_at_call 88; with_reducible exact after_of (c1 _)) | (go_at_call 89; with_reducible exact after_of (c2 _))))
    refine wpQuiet_nil ?_
    intro w2 hb2
    have hend := Lib.hid (hB.trans (hb2.mono hB.size))
    go_wp2_with fail
    go_ret
    exact ⟨retI HF.out.symm, hend.out⟩
  · by_cases h1 : l = h
    · have d1 : (l == h) = true := beq_iff_eq.2 h1
      have HN2 := Lib.hid (show R = if (q && decide (0 < l)) = true then l else 0 by rw [HN.out, decide_eq_true h1]; rfl)
      clear HN h1
      by_cases h2 : 0 < l
      · have d2 : decide (0 < l) = true := decide_eq_true h2
        cases q
        · have HF := Lib.hid (show R = 0 by rw [HN2.out]; rfl)
          refine wp_region_after (by kernel_rfl) (by kernel_rfl) ?_
          repeat (go_big_quiet_step (first | (go_at_call 88; with_reducible exact after_of (c1 _)) | (go_at_call 89; with_reducible exact after_of (c2 _))))
          refine wpQuiet_nil ?_
          intro w2 hb2
          have hend := Lib.hid (hB.trans (hb2.mono hB.size))
          go_wp2_with fail
          go_ret
          exact ⟨retI HF.out.symm, hend.out⟩
        · have HF := Lib.hid (show R = l by rw [HN2.out, d2]; rfl)
          refine wp_region_after (by kernel_rfl) (by kernel_rfl) ?_
          repeat (go_big_quiet_step (first | (go_at_call 88; with_reducible exact after_of (c1 _)) | (go_at_call 89; with_reducible exact after_of (c2 _))))
          refine wpQuiet_nil ?_
          intro w2 hb2
          have hend := Lib.hid (hB.trans (hb2.mono hB.size))
          have k0 := below_cell hb2 k0
          go_wp2_with fail
          go_ret
          exact ⟨retI HF.out.symm, hend.out⟩
      · have d2 : decide (0 < l) = false := decide_eq_false h2
        have HF := Lib.hid (show R = 0 by rw [HN2.out, d2]; cases q <;> rfl)
        cases q
        all_goals
          refine wp_region_after (by kernel_rfl) (by kernel_rfl) ?_
          repeat (go_big_quiet_step (first | (go_at_call 88; with_reducible exact after_of (c1 _)) | (go_at_call 89; with_reducible exact after_of (c2 _))))
          refine wpQuiet_nil ?_
          intro w2 hb2
          have hend := Lib.hid (hB.trans (hb2.mono hB.size))
          go_wp2_with fail
          go_ret
          exact ⟨retI HF.out.symm, hend.out⟩
    · have d1 : (l == h) = false := beq_eq_false_iff_ne.2 h1
      have HF := Lib.hid (show R = 0 by rw [HN.out, decide_eq_false h1]; cases q <;> rfl)
      clear h1 HN
      refine wp_region_after (by kernel_rfl) (by kernel_rfl) ?_
      repeat (go_big_quiet_step (first | (go_at_call 88; with_reducible exact after_of (c1 _)) | (go_at_call 89; with_reducible exact after_of (c2 _))))
      refine wpQuiet_nil ?_
      intro w2 hb2
      have hend := Lib.hid (hB.trans (hb2.mono hB.size))
      go_wp2_with fail
      go_ret
      exact ⟨retI HF.out.symm, hend.out⟩
/-- A variable that holds a range. -/
structure RgBox (w : World) (b : Nat) (l h : Int) (p q : Bool) : Prop where
  c0 : w.cell? ⟨b, 0, none⟩ = some (.int .i64 l)
  c1 : w.cell? ⟨b, 1, none⟩ = some (.int .i64 h)
  c2 : w.cell? ⟨b, 2, none⟩ = some (.bool p)
  c3 : w.cell? ⟨b, 3, none⟩ = some (.bool q)
  fz : ∀ i, w.frozen? ⟨b, i, none⟩ = false
theorem below_frozen {w w' : World} {b i : Nat} {v : Value} (hb : Below w.heap.size w w') (hc : w.cell? ⟨b, 0, none⟩ = some v) (h : w.frozen? ⟨b, i, none⟩ = false) : w'.frozen? ⟨b, i, none⟩ = false :=
  (hb.frozen (p := ⟨b, i, none⟩) (World.block_lt_of_cell? w ⟨b, 0, none⟩ hc)).trans h
theorem RgBox.lt {w : World} {b : Nat} {l h : Int} {p q : Bool} (k : RgBox w b l h p q) : b < w.heap.size := World.block_lt_of_cell? w ⟨b, 0, none⟩ k.c0
theorem RgBox.go {w w' : World} {b : Nat} {l h : Int} {p q : Bool} (k : RgBox w b l h p q) (hb : Below w.heap.size w w') : RgBox w' b l h p q :=
  ⟨below_cell hb k.c0, below_cell hb k.c1, below_cell hb k.c2, below_cell hb k.c3, fun i => below_frozen hb k.c0 (k.fz i)⟩
theorem RgBox.new (w : World) (t : TypeId) (l h : Int) (p q : Bool) : RgBox (w.alloc (.cells #[.int .i64 l, .int .i64 h, .bool p, .bool q] t)) w.heap.size l h p q :=
  ⟨by simp [World.cell?_alloc_new], by simp [World.cell?_alloc_new], by simp [World.cell?_alloc_new], by simp [World.cell?_alloc_new], fun i => by simp [go_sem]⟩
/-- Two ranges that came in, and the one to be told. -/
theorem rg3 (w : World) (t : TypeId) (l h : Int) (p q : Bool) (l' h' : Int) (p' q' : Bool) : ∃ W, W = ((w.alloc (.cells #[.int .i64 l, .int .i64 h, .bool p, .bool q] t)).alloc (.cells #[.int .i64 l', .int .i64 h', .bool p', .bool q'] t)).alloc (.cells #[.int .i64 0, .int .i64 0, .bool false, .bool false] t) ∧
    RgBox W w.heap.size l h p q ∧ RgBox W (w.heap.size + 1) l' h' p' q' ∧ RgBox W (w.heap.size + 1 + 1) 0 0 false false ∧ Below w.heap.size w W := by
  have b := fun (X : World) (o : Obj) => (Below.refl X.heap.size X).alloc (Nat.le_refl _) o
  have h1 := RgBox.new w t l h p q
  have h2 := RgBox.new (w.alloc (.cells #[.int .i64 l, .int .i64 h, .bool p, .bool q] t)) t l' h' p' q'
  have h3 := RgBox.new ((w.alloc (.cells #[.int .i64 l, .int .i64 h, .bool p, .bool q] t)).alloc (.cells #[.int .i64 l', .int .i64 h', .bool p', .bool q'] t)) t 0 0 false false
  refine ⟨_, rfl, (h1.go (b _ _)).go (b _ _), ?_, ?_, ?_⟩
  · simpa using h2.go (b _ (.cells #[.int .i64 0, .int .i64 0, .bool false, .bool false] t))
  · simpa using h3
  · repeat (first | exact Below.refl _ _ | refine Below.alloc ?_ (by simp; omega) _ | refine Below.alloc ?_ (by simp) _)
theorem end_by (n k : Int) (p : Bool) (w : World) (hn : I64 n) (hk : 0 < k) :
    Calls Try.prog 93 #[.agg #[.int .i64 n, .bool p], .int .i64 k] w fun e w' => e = .returned (.agg #[.int .i64 (n.tdiv k), .bool p]) ∧ Below w.heap.size w w' := by
  have c := fun X => num_Div n k X hn
  have e0 : divW n k = 0 := by unfold divW; rw [if_neg (by omega), if_neg (by omega)]
  have e1 : divV n k = n.tdiv k := by unfold divV; rw [if_pos e0]
  rw [e0, e1] at c
  clear hk e0 e1
  generalize n.tdiv k = d at *
  go_enter Try.func93, Try.ntmps93
  go_wp2_with (go_at_call 59; with_reducible refine (c _).mono ?_; rintro e w' ⟨rfl, rfl⟩)
  refine bodyPost_ret (v := .agg #[.int .i64 d, .bool p]) (by simp [results, Try.results93, go_sem]) rfl ⟨rfl, ?_⟩
  repeat (first | exact Below.refl _ _ | refine Below.setCell ?_ (by simp; omega) _ | refine Below.alloc ?_ (by simp; omega) _ | refine Below.setCell ?_ (by simp) _ | refine Below.alloc ?_ (by simp) _)
set_option maxHeartbeats 4000000 in
theorem ref15_Div (a b : Rg) (w : World) (ha : I64 a.lo) (ha' : I64 a.hi) (hb : I64 b.lo) :
    Calls Try.prog 50 #[.agg #[.int .i64 a.lo, .int .i64 a.hi, .bool a.hl, .bool a.hh], .agg #[.int .i64 b.lo, .int .i64 b.hi, .bool b.hl, .bool b.hh]] w fun e w' => e = .returned (.agg #[.int .i64 (divR a b).lo, .int .i64 (divR a b).hi, .bool (divR a b).hl, .bool (divR a b).hh]) ∧ Below w.heap.size w w' := by
  obtain ⟨l, h, p, q⟩ := a
  obtain ⟨l', h', p', q'⟩ := b
  obtain ⟨R, hR⟩ : ∃ R, R = divR ⟨l, h, p, q⟩ ⟨l', h', p', q'⟩ := ⟨_, rfl⟩
  rw [← hR]
  obtain ⟨W, hW, hA, hB, hC, hL⟩ := rg3 w 50 l h p q l' h' p' q'
  have c := ref15_divisor l' h' p' q' W
  dsimp only at *
  obtain ⟨x, hx⟩ : ∃ x, divB ⟨l', h', p', q'⟩ = x := ⟨_, rfl⟩
  rw [hx] at c
  go_enter Try.func50, Try.ntmps50
  have HX := Lib.hid hx
  have HR := Lib.hid hR
  have HI := Lib.hid ha; have HI' := Lib.hid ha'; have HJ := Lib.hid hb
  clear hx hR ha ha' hb
  go_wp2_with fail
  rw [← hW]
  clear hW
  with_reducible refine c.mono ?_
  clear c
  rintro e w2 ⟨rfl, hb⟩
  replace hA := hA.go hb
  replace hB := hB.go hb
  replace hC := hC.go hb
  replace hL := hL.trans (hb.mono hL.size)
  clear hb
  have s0 := hA.lt
  have s1 := hB.lt
  have s2 := hC.lt
  obtain ⟨k0, k1, k2, k3, kf⟩ := hA
  obtain ⟨l0, l1, l2, l3, lf⟩ := hB
  obtain ⟨m0, m1, m2, m3, mf⟩ := hC
  rcases x with _ | _
  · have HF := Lib.hid (show R = ⟨0, 0, false, false⟩ by rw [HR.out]; unfold divR; rw [if_pos (oneV_no HX.out)]; rfl)
    clear HX HR
    go_wp2_with fail
    refine bodyPost_ret (v := .agg #[.int .i64 0, .int .i64 0, .bool false, .bool false]) (by simp [results, Try.results50, go_sem, m0, m1, m2, m3]) rfl ⟨retR HF.out, ?_⟩
    refine Below.setCell (Below.setCell (Below.setCell (Below.setCell hL ?_ _) ?_ _) ?_ _) ?_ _ <;> (simp; try omega)
  · obtain ⟨e1, e2⟩ := oneV_yes HX.out
    have HF := Lib.hid (show R = toR (l.tdiv l') p (h.tdiv l') q by
      rw [HR.out]; unfold divR; rw [if_neg (by rw [e1]; dsimp only at e2 ⊢; omega), e1])
    dsimp only at e2
    clear HX HR e1
    have e3 : I64 (l.tdiv l') := tdiv_i64 HI.out (by omega) (by omega)
    have e4 : I64 (h.tdiv l') := tdiv_i64 HI'.out (by omega) (by omega)
    have e5 : (l' == 0) = false := beq_eq_false_iff_ne.2 (by omega)
    cases p
    · cases q
      · skip
        have HF2 := Lib.hid (show R = ⟨0, 0, false, false⟩ by rw [HF.out]; rfl)
        clear HF e3 e4
        go_wp2_with fail
        refine bodyPost_ret (v := .agg #[.int .i64 (0), .int .i64 (0), .bool false, .bool false]) (by simp [results, Try.results50, go_sem, m0, m1, m2, m3, s2]) rfl ⟨retR HF2.out, ?_⟩
        exact ((((hL.setCell (by simp; omega) _).setCell (by simp; omega) _).setCell (by simp; omega) _).setCell (by simp; omega) _).alloc (by simp; omega) _
      · skip
        have HF2 := Lib.hid (show R = ⟨0, wrap64 (h.tdiv l'), false, true⟩ by rw [HF.out, wrap64_eq e4]; rfl)
        clear HF e3 e4
        go_wp2_with fail
        refine bodyPost_ret (v := .agg #[.int .i64 (0), .int .i64 (wrap64 (h.tdiv l')), .bool false, .bool true]) (by simp [results, Try.results50, go_sem, m0, m1, m2, m3, s2]) rfl ⟨retR HF2.out, ?_⟩
        exact ((((hL.setCell (by simp; omega) _).setCell (by simp; omega) _).setCell (by simp; omega) _).setCell (by simp; omega) _).alloc (by simp; omega) _
    · cases q
      · skip
        have HF2 := Lib.hid (show R = ⟨wrap64 (l.tdiv l'), 0, true, false⟩ by rw [HF.out, wrap64_eq e3]; rfl)
        clear HF e3 e4
        go_wp2_with fail
        refine bodyPost_ret (v := .agg #[.int .i64 (wrap64 (l.tdiv l')), .int .i64 (0), .bool true, .bool false]) (by simp [results, Try.results50, go_sem, m0, m1, m2, m3, s2]) rfl ⟨retR HF2.out, ?_⟩
        exact ((((hL.setCell (by simp; omega) _).setCell (by simp; omega) _).setCell (by simp; omega) _).setCell (by simp; omega) _).alloc (by simp; omega) _
      · skip
        have HF2 := Lib.hid (show R = ⟨wrap64 (l.tdiv l'), wrap64 (h.tdiv l'), true, true⟩ by rw [HF.out, wrap64_eq e3, wrap64_eq e4]; rfl)
        clear HF e3 e4
        go_wp2_with fail
        refine bodyPost_ret (v := .agg #[.int .i64 (wrap64 (l.tdiv l')), .int .i64 (wrap64 (h.tdiv l')), .bool true, .bool true]) (by simp [results, Try.results50, go_sem, m0, m1, m2, m3, s2]) rfl ⟨retR HF2.out, ?_⟩
        exact ((((hL.setCell (by simp; omega) _).setCell (by simp; omega) _).setCell (by simp; omega) _).setCell (by simp; omega) _).alloc (by simp; omega) _
set_option maxHeartbeats 4000000 in
theorem span_Div (a b : Rg) (w : World) (ha : I64 a.lo) (ha' : I64 a.hi) :
    Calls Try.prog 49 #[.agg #[.int .i64 a.lo, .int .i64 a.hi, .bool a.hl, .bool a.hh], .agg #[.int .i64 b.lo, .int .i64 b.hi, .bool b.hl, .bool b.hh]] w fun e w' => e = .returned (.agg #[.int .i64 (divR a b).lo, .int .i64 (divR a b).hi, .bool (divR a b).hl, .bool (divR a b).hh]) ∧ Below w.heap.size w w' := by
  obtain ⟨l, h, p, q⟩ := a
  obtain ⟨l', h', p', q'⟩ := b
  obtain ⟨R, hR⟩ : ∃ R, R = divR ⟨l, h, p, q⟩ ⟨l', h', p', q'⟩ := ⟨_, rfl⟩
  rw [← hR]
  obtain ⟨W, hW, hA, hB, hC, hL⟩ := rg3 w 50 l h p q l' h' p' q'
  have c := span_one l' h' p' q' W
  have hp := @oneV_pos ⟨l', h', p', q'⟩
  dsimp only at *
  have HI := Lib.hid ha; have HI' := Lib.hid ha'
  unfold divR at hR
  obtain ⟨k, hk⟩ : ∃ k, oneV ⟨l', h', p', q'⟩ = k := ⟨_, rfl⟩
  rw [hk] at c hp hR
  have HP : Hid (k ≠ 0 → 0 < k) := Lib.hid (fun h => by have := hp h; omega)
  have HR := Lib.hid hR
  clear hR ha ha' hk hp
  obtain ⟨l0, l1, l2, l3, lf⟩ := hB
  go_enter Try.func49, Try.ntmps49
  rw [hW] at l0 l1 l2 l3
  go_wp2_with fail
  rw [← hW]
  clear hW l0 l1 l2 l3
  with_reducible refine c.mono ?_
  clear c
  rintro e w2 ⟨rfl, hb⟩
  replace hA := hA.go hb
  replace hC := hC.go hb
  replace hL := hL.trans (hb.mono hL.size)
  clear hb
  have s0 := hA.lt
  have s2 := hC.lt
  obtain ⟨k0, k1, k2, k3, kf⟩ := hA
  obtain ⟨m0, m1, m2, m3, mf⟩ := id hC
  by_cases hk : k = 0
  · have HF := Lib.hid (show R = ⟨0, 0, false, false⟩ by rw [HR.out, if_pos hk]; rfl)
    have d : (k == 0) = true := beq_iff_eq.2 hk
    clear hk HR
    go_wp2_with fail
    refine bodyPost_ret (v := .agg #[.int .i64 0, .int .i64 0, .bool false, .bool false]) (by simp [results, Try.results49, go_sem, m0, m1, m2, m3]) rfl ⟨retR HF.out, ?_⟩
    exact (((hL.setCell (by simp; omega) _).setCell (by simp; omega) _).setCell (by simp; omega) _).setCell (by simp; omega) _
  · have HF := Lib.hid (show R = toR (l.tdiv k) p (h.tdiv k) q by rw [HR.out, if_neg hk])
    have d : (k == 0) = false := beq_eq_false_iff_ne.2 hk
    have hp := HP.out hk
    clear hk HR HP
    clear m0 m1 m2 m3 mf
    go_wp2_with fail
    have a0 := After.cell k0
    have a1 := After.cell k1
    have a2 := After.cell k2
    have a3 := After.cell k3
    have c1 := fun X => span_lo l h p q X
    have c2 := fun X => span_hi l h p q X
    refine wp_region_after (by kernel_rfl) (by kernel_rfl) ?_
    repeat (go_big_quiet_step (first | (go_at_call 88; with_reducible exact after_of (c1 _)) | (go_at_call 89; with_reducible exact after_of (c2 _))))
    refine wpQuiet_nil ?_
    intro w3 hb
    clear a0 a1 a2 a3 c1 c2 k0 k1 k2 k3 kf
    replace hC := hC.go hb
    have s2 : w.heap.size + 1 + 1 < w3.heap.size := by have := hb.size; omega
    replace hL := hL.trans (hb.mono hL.size)
    clear hb
    have e1 := fun X => end_by l k p X HI.out hp
    have e2 := fun X => end_by h k q X HI'.out hp
    go_wp2_with fail
    with_reducible refine (e1 _).mono ?_
    clear e1
    rintro e w4 ⟨rfl, hb⟩
    replace hL := hL.trans (hb.mono hL.size)
    replace hC := hC.go hb
    have s2 : w.heap.size + 1 + 1 < w4.heap.size := by have := hb.size; omega
    clear hb
    go_wp2_with fail
    with_reducible refine (e2 _).mono ?_
    clear e2
    rintro e w5 ⟨rfl, hb⟩
    replace hL := hL.trans (hb.mono hL.size)
    replace hC := hC.go hb
    have s2 : w.heap.size + 1 + 1 < w5.heap.size := by have := hb.size; omega
    clear hb
    have cT := end_to (l.tdiv k) (h.tdiv k) p q w5 R HF.out
    go_wp2_with fail
    with_reducible refine cT.mono ?_
    clear cT
    rintro e w6 ⟨rfl, hb⟩
    replace hL := hL.trans (hb.mono hL.size)
    replace hC := hC.go hb
    clear hb
    obtain ⟨m0, m1, m2, m3, mf⟩ := id hC
    go_wp2_with fail
    refine bodyPost_ret (v := .agg #[.int .i64 R.lo, .int .i64 R.hi, .bool R.hl, .bool R.hh]) (by simp [results, Try.results49, go_sem, m0, m1, m2, m3]) rfl ⟨rfl, ?_⟩
    exact (((hL.setCell (by simp; omega) _).setCell (by simp; omega) _).setCell (by simp; omega) _).setCell (by simp; omega) _
end Go.Proofs.Ytkogplnleiapfaa
