/- Places are numbered from 0 on: plain, and the walk of CertNumbers. -/
import Derived.Test.YtghpiofjejhegaaCel
namespace Go.Proofs.Ytghpiofjejhegaa
open Go.RowKit
set_option linter.unusedVariables false
set_option linter.unusedSimpArgs false
open Gn
namespace Gn
def pnum (n i j : Nat) : Nat := pidx (pairs n) (plA i j) (plB i j)
/-- One step over the sides: is all well, how often each number was met, the next one. -/
def nStep (n i j : Nat) (s : Bool × List Int × Nat) : Bool × List Int × Nat :=
  if i = j then s else
    (s.1 && decide (pnum n (ac j) (ac i) = pnum n i j ∧ pnum n i j < s.2.1.length ∧ 0 ≤ nth s.2.1 (pnum n i j) ∧ nth s.2.1 (pnum n i j) ≤ 1000 ∧ (nth s.2.1 (pnum n i j) = 0 → pnum n i j = s.2.2)),
      s.2.1.set (pnum n i j) (nth s.2.1 (pnum n i j) + 1), if nth s.2.1 (pnum n i j) = 0 then s.2.2 + 1 else s.2.2)
def nRow (n i : Nat) (s : Bool × List Int × Nat) : Nat → Bool × List Int × Nat
  | 0 => s
  | j + 1 => nStep n i j (nRow n i s j)
def nTo (n : Nat) : Nat → Bool × List Int × Nat
  | 0 => (true, List.replicate (2 * n * n) 0, 0)
  | i + 1 => nRow n i (nTo n i) (2 * n)
set_option maxRecDepth 100000 in
theorem numbers_ok : ∀ n : Fin 7, (nTo n (2 * n)).1 = true ∧ (nTo n (2 * n)).2.2 = 2 * n.val * n.val := by decide +kernel
theorem nStep_true {n i j : Nat} {s : Bool × List Int × Nat} (h : (nStep n i j s).1 = true) : s.1 = true := by
  unfold nStep at h
  split at h
  · exact h
  · simp only [Bool.and_eq_true] at h
    exact h.1
theorem nRow_true {n i : Nat} {s : Bool × List Int × Nat} : ∀ {j k : Nat}, j ≤ k → (nRow n i s k).1 = true → (nRow n i s j).1 = true
  | j, 0, hj, h => by obtain rfl : j = 0 := by omega
                      exact h
  | j, k + 1, hj, h => by
    rcases Nat.lt_or_ge k j with h1 | h1
    · obtain rfl : j = k + 1 := by omega
      exact h
    · exact nRow_true h1 (nStep_true h)
theorem nTo_true {n : Nat} : ∀ {i k : Nat}, i ≤ k → (nTo n k).1 = true → (nTo n i).1 = true
  | i, 0, hi, h => by obtain rfl : i = 0 := by omega
                      exact h
  | i, k + 1, hi, h => by
    rcases Nat.lt_or_ge k i with h1 | h1
    · obtain rfl : i = k + 1 := by omega
      exact h
    · refine nTo_true h1 ?_
      have : (nRow n k (nTo n k) 0).1 = true := nRow_true (Nat.zero_le _) h
      exact this
/-- What holds at each step. -/
theorem nAll {n : Nat} (hn : n ≤ 6) {i j : Nat} (hi : i < 2 * n) (hj : j < 2 * n) : (nRow n i (nTo n i) (j + 1)).1 = true := by
  have h : (nTo n (2 * n)).1 = true := (numbers_ok ⟨n, by omega⟩).1
  have h2 : (nTo n (i + 1)).1 = true := nTo_true (by omega) h
  exact nRow_true (by omega) h2
theorem nLen {n : Nat} : ∀ i, (nTo n i).2.1.length = 2 * n * n
  | 0 => by simp [nTo]
  | i + 1 => by
    have key : ∀ (s : Bool × List Int × Nat) (k : Nat), (nRow n i s k).2.1.length = s.2.1.length := by
      intro s k
      induction k with
      | zero => rfl
      | succ k ih =>
        show (nStep n i k (nRow n i s k)).2.1.length = _
        unfold nStep
        split
        · exact ih
        · simp only [List.length_set]; exact ih
    show (nRow n i (nTo n i) (2 * n)).2.1.length = _
    rw [key, nLen i]
theorem nRowLen {n i : Nat} (s : Bool × List Int × Nat) : ∀ k, (nRow n i s k).2.1.length = s.2.1.length
  | 0 => rfl
  | k + 1 => by
    show (nStep n i k (nRow n i s k)).2.1.length = _
    unfold nStep
    split
    · exact nRowLen s k
    · simp only [List.length_set]; exact nRowLen s k
end Gn
namespace Gn
theorem nStep_same {n i : Nat} {s : Bool × List Int × Nat} : nStep n i i s = s := by unfold nStep; rw [if_pos rfl]
structure NFacts (n i j : Nat) (met : List Int) (nx : Nat) : Prop where
  mir : pnum n (ac j) (ac i) = pnum n i j
  lt : pnum n i j < met.length
  lo : 0 ≤ nth met (pnum n i j)
  hi : nth met (pnum n i j) ≤ 1000
  nxt : nth met (pnum n i j) = 0 → pnum n i j = nx
theorem nStep_facts {n i j : Nat} {b : Bool} {met : List Int} {nx : Nat} (h : i ≠ j) (ht : (nStep n i j (b, met, nx)).1 = true) : NFacts n i j met nx := by
  unfold nStep at ht
  rw [if_neg h] at ht
  simp only [Bool.and_eq_true, decide_eq_true_eq] at ht
  obtain ⟨_, a, b, c, d, e⟩ := ht
  exact ⟨a, b, c, d, e⟩
theorem nStep_new {n i j : Nat} {b : Bool} {met : List Int} {nx : Nat} (h : i ≠ j) (h0 : nth met (pnum n i j) = 0) : ∃ b', nStep n i j (b, met, nx) = (b', met.set (pnum n i j) (nth met (pnum n i j) + 1), nx + 1) := by
  unfold nStep; rw [if_neg h]; simp only [if_pos h0]; exact ⟨_, rfl⟩
theorem nStep_old {n i j : Nat} {b : Bool} {met : List Int} {nx : Nat} (h : i ≠ j) (h0 : nth met (pnum n i j) ≠ 0) : ∃ b', nStep n i j (b, met, nx) = (b', met.set (pnum n i j) (nth met (pnum n i j) + 1), nx) := by
  unfold nStep; rw [if_neg h]; simp only [if_neg h0]; exact ⟨_, rfl⟩
end Gn
theorem Try.elInt : ElTy Try.prog 48 3 (.int .i64 0) 8 := ⟨Try.underlying48, by kernel_rfl, rfl, by decide⟩
theorem make_int (q : Nat) (h : q ≤ 16384) (w : World) :
    (Instr.makeSlice 48 (.int .i64 (q : Int)) (.int .i64 (q : Int))).run Try.prog w = .ok (.slice (some ⟨w.heap.size, 0, none⟩) q q) (w.alloc (.cells (madeCells #[.int .i64 0] q) /-T-/3)) :=
  run_make_row' (P := Try.prog) /-T-/48 /-T-/3 (.int .i64 0) 8 Try.elInt.ht Try.elInt.info rfl .i64 .i64 q (by omega) (by omega) w
set_option maxRecDepth 100000 in
set_option maxHeartbeats 2000000 in
theorem law_CertNumbers (n : Int) (w : World) : Calls Try.prog 5 #[.int .i64 n] w fun e w' => e = .returned (.bool true) ∧ Below w.heap.size w w' := by
  by_cases h0 : n < 0
  · have q0 : decide (n < 0) = true := decide_eq_true h0
    go_enter Try.func5, Try.ntmps5
    go_wp2_with fail
    (with_reducible refine (known19 _).mono ?_)
    rintro e w1 ⟨rfl, hb1⟩
    go_wp2_with fail
    go_ret
    exact ⟨rfl, hb1⟩
  by_cases h6 : 6 < n
  · have q0 : decide (n < 0) = false := decide_eq_false h0
    have q1 : decide (6 < n) = true := decide_eq_true h6
    clear h0
    go_enter Try.func5, Try.ntmps5
    go_wp2_with fail
    (with_reducible refine (known19 _).mono ?_)
    rintro e w1 ⟨rfl, hb1⟩
    go_wp2_with fail
    go_ret
    exact ⟨rfl, hb1⟩
  obtain ⟨m, rfl⟩ := Int.eq_ofNat_of_zero_le (show 0 ≤ n by omega)
  have hm : m ≤ 6 := by omega
  have p0 : decide ((m : Int) < 0) = false := decide_eq_false h0
  have p1 : decide (6 < (m : Int)) = false := decide_eq_false h6
  have hq : 2 * m * m ≤ 72 := by
    have := Nat.mul_le_mul (show 2 * m ≤ 12 by omega) hm
    omega
  have cC : ∀ W, Calls Try.prog 26 #[.int .i64 m] W fun e w' => e = .returned (.int .i64 ((2 * m * m : Nat) : Int)) ∧ W = w' := fun W => by
    have := cert_Cells m W
    rw [show cellsP m = ((2 * m * m : Nat) : Int) by unfold cellsP; rw [if_pos (by omega)]; push_cast; rfl] at this
    exact this
  have hmk := make_int (2 * m * m) (by omega)
  have hT0 := Lib.hid (show nTo m 0 = (true, List.replicate (2 * m * m) 0, 0) from rfl)
  have HALL : Hid (∀ i j, i < 2 * m → j < 2 * m → (nRow m i (nTo m i) (j + 1)).1 = true) := Lib.hid (fun i j hi hj => nAll hm hi hj)
  have HLEN : Hid (∀ i, (nTo m i).2.1.length = 2 * m * m) := Lib.hid nLen
  have HEND : Hid ((nTo m (2 * m)).2.2 = 2 * m * m) := Lib.hid (numbers_ok ⟨m, by omega⟩).2
  have hT0' : Hid (List.replicate (2 * m * m) (0 : Int) = (nTo m 0).2.1) := Lib.hid rfl
  obtain ⟨q, hqe⟩ : ∃ q, q = 2 * m * m := ⟨_, rfl⟩
  rw [← hqe] at hq cC hmk HLEN HEND hT0'
  clear hqe hT0 h0 h6
  go_enter Try.func5, Try.ntmps5
  go_wp2_with fail
  (with_reducible refine (known19 _).mono ?_)
  rintro e w1 ⟨rfl, hb1⟩
  have HB1 := Lib.hid hb1
  clear hb1
  go_wp2_with fail
  (with_reducible refine (cC _).mono ?_)
  rintro e w' ⟨rfl, rfl⟩
  clear cC
  have hOw := Ow.made w1 w1.heap.size q 3 .i64 (Nat.le_refl _) (by unfold maxLen; omega)
  have hb2 : Below w1.heap.size w1 (w1.alloc (.cells (madeCells #[.int .i64 0] q) /-T-/3)) := (Below.refl _ _).alloc (Nat.le_refl _) _
  rw [hT0'.out] at hOw
  go_wp2_with fail
  clear hmk
  generalize (w1.alloc (.cells (madeCells #[.int .i64 0] q) /-T-/3)) = w2 at *
  have HB2 := Lib.hid (hb2)
  have HG := Lib.hid (Nat.le_refl w1.heap.size)
  go_loopw [4, 5] (fun s4 s5 wr => ∃ i : Nat, s5 = .int .i64 i ∧ i ≤ 2 * m ∧ ∃ b met nx, Hid (nTo m i = (b, met, nx)) ∧ s4 = .int .i64 (nx : Nat) ∧ Ow wr w1.heap.size 3 .i64 (some ⟨w1.heap.size, 0, none⟩) q met ∧ Below w1.heap.size w1 wr) (fun _ s _ => 2 * m - (intOf s).toNat)
  case atStart => exact ⟨0, rfl, by omega, _, _, _, Lib.hid rfl, rfl, hOw, hb2⟩
  case round =>
    clear hOw hb2
    obtain ⟨i, rfl, hi, b, met, nx, HT, rfl, hown, hB⟩ := hrel
    rcases Nat.lt_or_ge i (2 * m) with hlt | hge
    · have hdi : decide ((i : Int) < 2 * (m : Int)) = true := decide_eq_true (by omega)
      go_wp2_with fail
      go_loopw [4, 6] (fun s4 s6 wr => ∃ j : Nat, s6 = .int .i64 j ∧ j ≤ 2 * m ∧ ∃ b met nx, Hid (nRow m i (nTo m i) j = (b, met, nx)) ∧ s4 = .int .i64 (nx : Nat) ∧ Ow wr w1.heap.size 3 .i64 (some ⟨w1.heap.size, 0, none⟩) q met ∧ Below w1.heap.size w1 wr) (fun _ s _ => 2 * m - (intOf s).toNat)
      case atStart => exact ⟨0, rfl, by omega, b, met, nx, HT, rfl, hown, hB⟩
      case round =>
        clear hown hB
        obtain ⟨j, rfl, hj, b, met, nx, HR, rfl, hown, hB⟩ := hrel
        rcases Nat.lt_or_ge j (2 * m) with hjl | hjg
        · have hdj : decide ((j : Int) < 2 * (m : Int)) = true := decide_eq_true (by omega)
          by_cases hij : i = j
          · have q0 : ((i : Int) == (j : Int)) = true := beq_iff_eq.2 (by omega)
            have cN := fun W => cert_Number_bad m i j W (by omega)
            have HN := Lib.hid (show nRow m i (nTo m i) (j + 1) = (b, met, nx) by show nStep m i j _ = _; rw [HR.out, hij, nStep_same])
            clear hij
            go_wp2_with fail
            (with_reducible refine (cN _).mono ?_)
            clear cN
            rintro e w5 ⟨rfl, hb5⟩
            have HO5 := Lib.hid (hown.below hb5)
            have HB5 := Lib.hid (hB.trans (hb5.mono hB.size))
            clear hown hB hb5
            go_wp2_with fail
            go_roundw
            case rel => exact ⟨j + 1, by go_num, by omega, b, met, nx, HN, rfl, HO5.out, HB5.out⟩
            case measure => simp [intOf]; omega
          · have q0 : ((i : Int) == (j : Int)) = false := beq_eq_false_iff_ne.2 (by omega)
            have cN := fun W => cert_Number_ok m i j W (by omega) hlt hjl hij
            have cM := fun W => cert_Number_ok m (ac j) (ac i) W (by omega) (ac_lt hjl) (ac_lt hlt) (fun e => hij (by rw [← ac_ac i, ← e, ac_ac]))
            have cI := fun W => ref_Across i W (by omega)
            have cJ := fun W => ref_Across j W (by omega)
            obtain ⟨f1, f2, f3, f4, f5⟩ := nStep_facts (b := b) hij (by rw [← HR.out]; exact HALL.out i j hlt hjl)
            have hkq : pnum m i j < q := by
              have e1 := nRowLen (n := m) (i := i) (nTo m i) j
              rw [HR.out, HLEN.out] at e1
              dsimp only at e1
              omega
            have HNEW : Hid (nth met (pnum m i j) = 0 → ∃ b', nRow m i (nTo m i) (j + 1) = (b', met.set (pnum m i j) (nth met (pnum m i j) + 1), nx + 1)) := Lib.hid (fun h => by
              obtain ⟨b', hb'⟩ := nStep_new (b := b) (nx := nx) hij h
              exact ⟨b', by show nStep m i j _ = _; rw [HR.out]; exact hb'⟩)
            have HOLD : Hid (nth met (pnum m i j) ≠ 0 → ∃ b', nRow m i (nTo m i) (j + 1) = (b', met.set (pnum m i j) (nth met (pnum m i j) + 1), nx)) := Lib.hid (fun h => by
              obtain ⟨b', hb'⟩ := nStep_old (b := b) (nx := nx) hij h
              exact ⟨b', by show nStep m i j _ = _; rw [HR.out]; exact hb'⟩)
            unfold pnum at f1
            rw [f1] at cM
            clear f1 hij
            have cN' : ∀ W, Calls Try.prog 27 #[.int .i64 m, .int .i64 i, .int .i64 j] W (TellsNum W (pnum m i j : Nat) 0) := cN
            have cM' : ∀ W, Calls Try.prog 27 #[.int .i64 m, .int .i64 (ac j), .int .i64 (ac i)] W (TellsNum W (pnum m i j : Nat) 0) := cM
            clear cN cM
            have cN := cN'
            have cM := cM'
            clear cN' cM'
            generalize pnum m i j = k at *
            obtain ⟨v, hv⟩ : ∃ v, v = nth met k := ⟨_, rfl⟩
            rw [← hv] at f3 f4 f5 HNEW HOLD
            have hkl : k < met.length := f2
            generalize ac i = ai at *
            generalize ac j = aj at *
            have q1 : ((k : Int) != (k : Int)) = false := by simp
            have q2 : (0 : Int) ≤ (k : Int) := by omega
            have q3 : (k : Int) < (q : Int) := by omega
            have q4 : decide (q ≤ k) = false := decide_eq_false (by omega)
            clear hdi hdj f2
            by_cases h0 : v = 0
            · obtain rfl : k = nx := f5 h0
              obtain ⟨b', hb'⟩ := HNEW.out h0
              have HN := Lib.hid hb'
              have q5 : (v == 0) = true := beq_iff_eq.2 h0
              clear f5 HNEW HOLD h0 hb'
              go_wp2_with fail
              (with_reducible refine (cN _).mono ?_)
              clear cN
              rintro e w5 ⟨rfl, hb5⟩
              have hown5 := hown.below hb5
              have hB5 := hB.trans (hb5.mono hB.size)
              clear hown hB hb5
              go_wp2_with fail
              (with_reducible refine (cJ _).mono ?_)
              rintro e w' ⟨rfl, rfl⟩
              clear cJ
              go_wp2_with fail
              (with_reducible refine (cI _).mono ?_)
              rintro e w' ⟨rfl, rfl⟩
              clear cI
              go_wp2_with fail
              (with_reducible refine (cM _).mono ?_)
              clear cM
              rintro e w6 ⟨rfl, hb6⟩
              have hown6 := hown5.below hb6
              have hB6 := hB5.trans (hb6.mono hB5.size)
              clear hown5 hB5 hb6
              have m0 := hown6.cellAt' (i := k) rfl hkl
              have mf := hown6.frozenAt' k
              rw [← hv] at m0
              clear hv
              go_wp2_with fail
              have HO7 := Lib.hid (hown6.set' k (v + 1))
              have HB7 := Lib.hid (hB6.setCell (p := ⟨w1.heap.size, k, none⟩) (Nat.le_refl _) (.int .i64 (v + 1)))
              clear hown6 hB6 m0 mf
              go_roundw
              case rel => exact ⟨j + 1, by go_num, by omega, b', _, k + 1, HN, by go_num, HO7.out, HB7.out⟩
              case measure => simp [intOf]; omega
            · obtain ⟨b', hb'⟩ := HOLD.out h0
              have HN := Lib.hid hb'
              have q5 : (v == 0) = false := beq_eq_false_iff_ne.2 h0
              clear f5 HNEW HOLD h0 hb'
              go_wp2_with fail
              (with_reducible refine (cN _).mono ?_)
              clear cN
              rintro e w5 ⟨rfl, hb5⟩
              have hown5 := hown.below hb5
              have hB5 := hB.trans (hb5.mono hB.size)
              clear hown hB hb5
              go_wp2_with fail
              (with_reducible refine (cJ _).mono ?_)
              rintro e w' ⟨rfl, rfl⟩
              clear cJ
              go_wp2_with fail
              (with_reducible refine (cI _).mono ?_)
              rintro e w' ⟨rfl, rfl⟩
              clear cI
              go_wp2_with fail
              (with_reducible refine (cM _).mono ?_)
              clear cM
              rintro e w6 ⟨rfl, hb6⟩
              have hown6 := hown5.below hb6
              have hB6 := hB5.trans (hb6.mono hB5.size)
              clear hown5 hB5 hb6
              have m0 := hown6.cellAt' (i := k) rfl hkl
              have mf := hown6.frozenAt' k
              rw [← hv] at m0
              clear hv
              go_wp2_with fail
              have HO7 := Lib.hid (hown6.set' k (v + 1))
              have HB7 := Lib.hid (hB6.setCell (p := ⟨w1.heap.size, k, none⟩) (Nat.le_refl _) (.int .i64 (v + 1)))
              clear hown6 hB6 m0 mf
              go_roundw
              case rel => exact ⟨j + 1, by go_num, by omega, b', _, nx, HN, rfl, HO7.out, HB7.out⟩
              case measure => simp [intOf]; omega
        · obtain rfl : j = 2 * m := by omega
          have HN := Lib.hid (show nTo m (i + 1) = (b, met, nx) from HR.out)
          have HO := Lib.hid hown
          have HB := Lib.hid hB
          clear hown hB
          go_wp2_with fail
          go_roundw
          case rel => exact ⟨i + 1, by go_num, by omega, b, met, nx, HN, rfl, HO.out, HB.out⟩
          case measure => simp [intOf]; omega
    · obtain rfl : i = 2 * m := by omega
      have hnx : nx = q := by have := HEND.out; rw [HT.out] at this; exact this
      have HB := Lib.hid (HB1.out.trans (hB.mono HB1.out.size))
      subst hnx
      clear hown hB hge hi
      go_wp2_with fail
      go_ret
      exact ⟨by simp, HB.out⟩
end Go.Proofs.Ytghpiofjejhegaa
