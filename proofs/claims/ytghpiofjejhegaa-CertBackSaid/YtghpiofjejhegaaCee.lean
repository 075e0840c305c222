/- The walks of gnomonref19.Number and gnomonref12.Cells. -/
import Derived.Test.YtghpiofjejhegaaCed
namespace Go.Proofs.Ytghpiofjejhegaa
open Go.RowKit
set_option linter.unusedVariables false
set_option linter.unusedSimpArgs false
open Gn
set_option maxRecDepth 100000 in
set_option maxHeartbeats 2000000 in
theorem ref_Number_bad (n i j : Int) (w : World) (h : ¬ (0 ≤ n ∧ n ≤ 64 ∧ 0 ≤ i ∧ i < 2 * n ∧ 0 ≤ j ∧ j < 2 * n ∧ i ≠ j)) :
    Calls Try.prog 31 #[.int .i64 n, .int .i64 i, .int .i64 j] w (TellsNum w 0 190) := by
  by_cases h0 : n < 0
  · have q0 : decide (n < 0) = true := decide_eq_true h0
    go_enter Try.func31, Try.ntmps31
    go_wp2_with fail
    go_ret2
    exact ⟨rfl, Below.refl _ _⟩
  have q0 : decide (n < 0) = false := decide_eq_false h0
  by_cases h1 : 64 < n
  · have q1 : decide (64 < n) = true := decide_eq_true h1
    clear h
    go_enter Try.func31, Try.ntmps31
    go_wp2_with fail
    go_ret2
    exact ⟨rfl, Below.refl _ _⟩
  have q1 : decide (64 < n) = false := decide_eq_false h1
  have b0 : 0 ≤ n := by omega
  have b1 : n ≤ 64 := by omega
  by_cases h2 : i < 0
  · have q2 : decide (i < 0) = true := decide_eq_true h2
    clear h
    go_enter Try.func31, Try.ntmps31
    go_wp2_with fail
    go_ret2
    exact ⟨rfl, Below.refl _ _⟩
  have q2 : decide (i < 0) = false := decide_eq_false h2
  by_cases h3 : 2 * n ≤ i
  · have q3 : decide (2 * n ≤ i) = true := decide_eq_true h3
    clear h
    go_enter Try.func31, Try.ntmps31
    go_wp2_with fail
    go_ret2
    exact ⟨rfl, Below.refl _ _⟩
  have q3 : decide (2 * n ≤ i) = false := decide_eq_false h3
  by_cases h4 : j < 0
  · have q4 : decide (j < 0) = true := decide_eq_true h4
    clear h
    go_enter Try.func31, Try.ntmps31
    go_wp2_with fail
    go_ret2
    exact ⟨rfl, Below.refl _ _⟩
  have q4 : decide (j < 0) = false := decide_eq_false h4
  by_cases h5 : 2 * n ≤ j
  · have q5 : decide (2 * n ≤ j) = true := decide_eq_true h5
    clear h
    go_enter Try.func31, Try.ntmps31
    go_wp2_with fail
    go_ret2
    exact ⟨rfl, Below.refl _ _⟩
  have q5 : decide (2 * n ≤ j) = false := decide_eq_false h5
  have he : (i == j) = true := beq_iff_eq.2 (by omega)
  clear h
  go_enter Try.func31, Try.ntmps31
  go_wp2_with fail
  go_ret2
  exact ⟨rfl, Below.refl _ _⟩
set_option maxRecDepth 100000 in
set_option maxHeartbeats 2000000 in
theorem ref_Number_ok (n i j : Nat) (w : World) (hn : n ≤ 64) (hi : i < 2 * n) (hj : j < 2 * n) (hij : i ≠ j) :
    Calls Try.prog 31 #[.int .i64 n, .int .i64 i, .int .i64 j] w (TellsNum w (pidx (pairs n) (plA i j) (plB i j) : Nat) 0) := by
  have hin := pl_mem hi hj hij
  have hpl : (pairs n).length ≤ 1000000 := Nat.le_trans (pairs_len n) (Nat.le_trans (Nat.mul_le_mul (show 2 * n ≤ 128 by omega) (show 2 * n ≤ 128 by omega)) (by decide))
  have hl := pidx_lt hin
  have HA := Lib.hid (pidx_at hin)
  have HN : Hid (∀ k, k < pidx (pairs n) (plA i j) (plB i j) → ¬ (pfst (pairs n) k = plA i j ∧ psnd (pairs n) k = plB i j)) := Lib.hid (fun k h => pidx_ne h)
  have cPl := fun W => ref_places n W hn
  have cF := fun W => ref_First i j W (by omega) (by omega)
  have cI := fun W => ref_Across i W (by omega)
  have cJ := fun W => ref_Across j W (by omega)
  have he : ((i : Int) == (j : Int)) = false := beq_eq_false_iff_ne.2 (by omega)
  have p0 : decide ((n : Int) < 0) = false := decide_eq_false (by omega)
  have p1 : decide (64 < (n : Int)) = false := decide_eq_false (by omega)
  have p2 : decide ((i : Int) < 0) = false := decide_eq_false (by omega)
  have p3 : decide (2 * (n : Int) ≤ i) = false := decide_eq_false (by omega)
  have p4 : decide ((j : Int) < 0) = false := decide_eq_false (by omega)
  have p5 : decide (2 * (n : Int) ≤ j) = false := decide_eq_false (by omega)
  have HXY : Hid ((fst2 i j = true → plA i j = i ∧ plB i j = j) ∧ (fst2 i j = false → plA i j = ac j ∧ plB i j = ac i)) := Lib.hid (by unfold plA plB; exact ⟨fun h => by rw [if_pos h, if_pos h]; exact ⟨rfl, rfl⟩, fun h => by rw [h]; exact ⟨rfl, rfl⟩⟩)
  obtain ⟨q, hq⟩ : ∃ q, q = pidx (pairs n) (plA i j) (plB i j) := ⟨_, rfl⟩
  rw [← hq] at hl HA HN ⊢
  clear hq hin
  obtain ⟨x, hx⟩ : ∃ x, x = plA i j := ⟨_, rfl⟩
  obtain ⟨y, hy⟩ : ∃ y, y = plB i j := ⟨_, rfl⟩
  obtain ⟨f, hf⟩ : ∃ f, f = fst2 i j := ⟨_, rfl⟩
  rw [← hx, ← hy] at HXY HA HN
  rw [← hf] at cF HXY
  obtain ⟨ps, hps⟩ : ∃ ps, ps = pairs n := ⟨_, rfl⟩
  rw [← hps] at cPl hl HA HN hpl
  clear hx hy hf hij hps
  go_enter Try.func31, Try.ntmps31
  go_wp2_with fail
  (with_reducible refine (cF _).mono ?_)
  rintro e w' ⟨rfl, rfl⟩
  clear cF
  rcases f with _ | _
  · obtain ⟨e1, e2⟩ := HXY.out.2 rfl
    subst e1 e2
    clear HXY
    go_wp2_with fail
    (with_reducible refine (cJ _).mono ?_)
    rintro e w' ⟨rfl, rfl⟩
    clear cJ
    go_wp2_with fail
    (with_reducible refine (cI _).mono ?_)
    rintro e w' ⟨rfl, rfl⟩
    clear cI
    generalize ac i = y at *
    generalize ac j = x at *
    go_wp2_with fail
    (with_reducible refine (cPl _).mono ?_)
    rintro e w1 ⟨A, c, rfl, hown, hb⟩
    have hr := rdp_own hown
    have HB := Lib.hid hb
    clear hb hown cPl
    go_wp2_with fail
    go_loop [9] (fun s => ∃ k : Nat, s = .int .i64 k ∧ k ≤ q) (fun s => q - (intOf s).toNat)
    case atStart => exact ⟨0, rfl, by omega⟩
    case round =>
      obtain ⟨k, rfl, hk⟩ := hrel
      obtain ⟨g, off, rfl, hg, hc⟩ := hr (by omega)
      obtain ⟨m0, m1⟩ := hc k (by omega)
      clear hc hr
      have q1 : (k : Int) < (ps.length : Int) := by omega
      have q2 : decide (k < ps.length) = true := decide_eq_true (by omega)
      have q3 : (0 : Int) ≤ (k : Int) := by omega
      rcases Nat.lt_or_ge k q with hlt | hge
      · have HE := HN.out k hlt
        by_cases h1 : pfst ps k = x
        · have h2 : ¬ ((psnd ps k : Int) = (y : Int)) := fun e => HE ⟨h1, by omega⟩
          rw [h1] at m0
          clear HE h1
          go_wp2_with fail
          go_round
          case rel => exact ⟨k + 1, by go_num, by omega⟩
          case measure => simp [intOf]; omega
        · have h2 : ¬ ((pfst ps k : Int) = (x : Int)) := fun e => h1 (by omega)
          clear HE h1
          go_wp2_with fail
          go_round
          case rel => exact ⟨k + 1, by go_num, by omega⟩
          case measure => simp [intOf]; omega
      · obtain rfl : k = q := by omega
        rw [HA.out.1] at m0
        rw [HA.out.2] at m1
        clear hge hk
        go_wp2_with fail
        go_ret2
        exact ⟨rfl, HB.out⟩
  · obtain ⟨e1, e2⟩ := HXY.out.1 rfl
    clear HXY
    clear p3 p5 cI cJ he
    clear hi hj
    subst e1 e2
    go_wp2_with fail
    (with_reducible refine (cPl _).mono ?_)
    rintro e w1 ⟨A, c, rfl, hown, hb⟩
    have hr := rdp_own hown
    have HB := Lib.hid hb
    clear hb hown cPl
    go_wp2_with fail
    go_loop [9] (fun s => ∃ k : Nat, s = .int .i64 k ∧ k ≤ q) (fun s => q - (intOf s).toNat)
    case atStart => exact ⟨0, rfl, by omega⟩
    case round =>
      obtain ⟨k, rfl, hk⟩ := hrel
      obtain ⟨g, off, rfl, hg, hc⟩ := hr (by omega)
      obtain ⟨m0, m1⟩ := hc k (by omega)
      clear hc hr
      have q1 : (k : Int) < (ps.length : Int) := by omega
      have q2 : decide (k < ps.length) = true := decide_eq_true (by omega)
      have q3 : (0 : Int) ≤ (k : Int) := by omega
      rcases Nat.lt_or_ge k q with hlt | hge
      · have HE := HN.out k hlt
        by_cases h1 : pfst ps k = x
        · have h2 : ¬ ((psnd ps k : Int) = (y : Int)) := fun e => HE ⟨h1, by omega⟩
          rw [h1] at m0
          clear HE h1
          go_wp2_with fail
          go_round
          case rel => exact ⟨k + 1, by go_num, by omega⟩
          case measure => simp [intOf]; omega
        · have h2 : ¬ ((pfst ps k : Int) = (x : Int)) := fun e => h1 (by omega)
          clear HE h1
          go_wp2_with fail
          go_round
          case rel => exact ⟨k + 1, by go_num, by omega⟩
          case measure => simp [intOf]; omega
      · obtain rfl : k = q := by omega
        rw [HA.out.1] at m0
        rw [HA.out.2] at m1
        clear hge hk
        go_wp2_with fail
        go_ret2
        exact ⟨rfl, HB.out⟩
end Go.Proofs.Ytghpiofjejhegaa
