/- Plain: the order of octagons: the error of two, entailment, Meet, Join, by closing. No program in sight. -/
import Derived.Test.YtkgddgckilledaaCcl
namespace Go.Proofs.Ytkgddgckilledaa
open Go.RowKit
set_option linter.unusedVariables false
set_option linter.unusedSimpArgs false
namespace Gn
/-- The error of two octagons. -/
def pairP (Na : Int) (Ea : Bool) (Ma : List Int) (Nb : Int) (Eb : Bool) (Mb : List Int) : Int :=
  if chk Na Ea Ma ≠ 0 then chk Na Ea Ma else if chk Nb Eb Mb ≠ 0 then chk Nb Eb Mb else if Na ≠ Nb then 140 else 0
theorem pairP_zero {Na Nb : Int} {Ea Eb : Bool} {Ma Mb : List Int} (h : pairP Na Ea Ma Nb Eb Mb = 0) : chk Na Ea Ma = 0 ∧ chk Nb Eb Mb = 0 ∧ Na = Nb := by
  unfold pairP at h
  split at h
  · rename_i h1; exact absurd h h1
  · split at h
    · rename_i h1; exact absurd h h1
    · split at h
      · exact absurd h (by omega)
      · rename_i h1 h2 h3
        exact ⟨by omega, by omega, by omega⟩
theorem pairP_ok {N : Int} {Ea Eb : Bool} {Ma Mb : List Int} (h1 : chk N Ea Ma = 0) (h2 : chk N Eb Mb = 0) : pairP N Ea Ma N Eb Mb = 0 := by
  unfold pairP; rw [if_neg (by omega), if_neg (by omega), if_neg (by simp)]
/-- An octagon closed. -/
def clo (N : Int) (E : Bool) (M : List Int) : Int × Bool × List Int := (closeP N E M).1.1
theorem clo_chk {N : Int} {E : Bool} {M : List Int} (hc : chk N E M = 0) : (clo N E M).1 = N ∧ chk N (clo N E M).2.1 (clo N E M).2.2 = 0 := closeP_chk hc
/-- Two rows together. -/
def zip2 (f : Int → Int → Int) (xs ys : List Int) : List Int := (List.range xs.length).map fun i => f (nth xs i) (nth ys i)
theorem zip2_len (f : Int → Int → Int) (xs ys : List Int) : (zip2 f xs ys).length = xs.length := by simp [zip2]
theorem nth_zip2 {f : Int → Int → Int} {xs ys : List Int} {i : Nat} (h : i < xs.length) : nth (zip2 f xs ys) i = f (nth xs i) (nth ys i) := by simp [zip2, nth, h]
theorem zip2_congr {f g : Int → Int → Int} {xs ys : List Int} (h : ∀ i, i < xs.length → f (nth xs i) (nth ys i) = g (nth xs i) (nth ys i)) : zip2 f xs ys = zip2 g xs ys :=
  list_eq_nth (by rw [zip2_len, zip2_len]) fun i hi => by
    rw [zip2_len] at hi
    rw [nth_zip2 hi, nth_zip2 hi, h i hi]
/-- Is no cell above? -/
def above (Ea : Bool) (Ma : List Int) (Eb : Bool) (Mb : List Int) : Bool := Ea || (!Eb && decide (∀ i, i < Ma.length → nth Ma i ≤ nth Mb i))
def entP (N : Int) (Ea : Bool) (Ma : List Int) (Eb : Bool) (Mb : List Int) : Bool := above (clo N Ea Ma).2.1 (clo N Ea Ma).2.2 Eb Mb
def meetP (N : Int) (Ea : Bool) (Ma : List Int) (Eb : Bool) (Mb : List Int) : Int × Bool × List Int := if (Ea || Eb) = true then (N, true, []) else clo N false (zip2 less Ma Mb)
def joinP (N : Int) (Ea : Bool) (Ma : List Int) (Eb : Bool) (Mb : List Int) : Int × Bool × List Int :=
  if (clo N Ea Ma).2.1 = true then clo N Eb Mb else if (clo N Eb Mb).2.1 = true then clo N Ea Ma else (N, false, zip2 max (clo N Ea Ma).2.2 (clo N Eb Mb).2.2)
/-- The cells of what may be are bounds. -/
theorem chk_allB {N : Int} {M : List Int} (h : chk N false M = 0) : allB M := by
  obtain ⟨n, rfl, hn, hE1, hE0⟩ := chk_zero h
  obtain ⟨hl, hok⟩ := hE0 rfl
  exact allB_of (by rw [hl, sq2]) hok
theorem chk_same_len {N : Int} {M M' : List Int} (h : chk N false M = 0) (h' : chk N false M' = 0) : M.length = M'.length := by
  obtain ⟨n, hn, _, _, hE0⟩ := chk_zero h
  obtain ⟨m, hm, _, _, hE1⟩ := chk_zero h'
  obtain rfl : n = m := by omega
  rw [(hE0 rfl).1, (hE1 rfl).1]
/-- The lesser of both, cell by cell, may be. -/
theorem chk_less {N : Int} {Ma Mb : List Int} (ha : chk N false Ma = 0) (hb : chk N false Mb = 0) : chk N false (zip2 less Ma Mb) = 0 := by
  obtain ⟨n, rfl, hn, _, hE0⟩ := chk_zero ha
  obtain ⟨m, hm, _, _, hE1⟩ := chk_zero hb
  obtain rfl : n = m := by omega
  obtain ⟨hl, hok⟩ := hE0 rfl
  obtain ⟨hl', hok'⟩ := hE1 rfl
  have hcl : ∀ a, a < 2 * n → ∀ b, b < 2 * n → cl (2 * n) (zip2 less Ma Mb) a b = less (cl (2 * n) Ma a b) (cl (2 * n) Mb a b) := fun a ha b hb => by
    unfold cl
    rw [nth_zip2 (by rw [hl, ← sq2]; exact idx_lt ha hb)]
  refine chk_ok hn (by rw [zip2_len, hl]) fun a ha b hb => ⟨?_, fun e => ?_, ?_⟩
  · rw [hcl a ha b hb]; exact (isB_iff _).2 (less_bd _ _)
  · rw [hcl a ha b hb, (hok a ha b hb).2.1 e, (hok' a ha b hb).2.1 e]; decide
  · rw [hcl a ha b hb, hcl _ (ac_lt hb) _ (ac_lt ha), (hok a ha b hb).2.2, (hok' a ha b hb).2.2]
/-- The greater of both, cell by cell, may be. -/
theorem chk_max {N : Int} {Ma Mb : List Int} (ha : chk N false Ma = 0) (hb : chk N false Mb = 0) : chk N false (zip2 max Ma Mb) = 0 := by
  obtain ⟨n, rfl, hn, _, hE0⟩ := chk_zero ha
  obtain ⟨m, hm, _, _, hE1⟩ := chk_zero hb
  obtain rfl : n = m := by omega
  obtain ⟨hl, hok⟩ := hE0 rfl
  obtain ⟨hl', hok'⟩ := hE1 rfl
  have hcl : ∀ a, a < 2 * n → ∀ b, b < 2 * n → cl (2 * n) (zip2 max Ma Mb) a b = max (cl (2 * n) Ma a b) (cl (2 * n) Mb a b) := fun a ha b hb => by
    unfold cl
    rw [nth_zip2 (by rw [hl, ← sq2]; exact idx_lt ha hb)]
  refine chk_ok hn (by rw [zip2_len, hl]) fun a ha b hb => ⟨?_, fun e => ?_, ?_⟩
  · rw [hcl a ha b hb]
    have h1 := (isB_iff _).1 (hok a ha b hb).1
    have h2 := (isB_iff _).1 (hok' a ha b hb).1
    refine (isB_iff _).2 ?_
    unfold Bd at *
    omega
  · rw [hcl a ha b hb, (hok a ha b hb).2.1 e, (hok' a ha b hb).2.1 e]; decide
  · rw [hcl a ha b hb, hcl _ (ac_lt hb) _ (ac_lt ha), (hok a ha b hb).2.2, (hok' a ha b hb).2.2]
/-- By the lesser number: the same as by the lesser bound. -/
theorem zip_min {N : Int} {Ma Mb : List Int} (ha : chk N false Ma = 0) (hb : chk N false Mb = 0) : zip2 min Ma Mb = zip2 less Ma Mb :=
  zip2_congr fun i _ => (less_eq (chk_allB ha i) (chk_allB hb i)).symm
theorem meetP_chk {N : Int} {Ea Eb : Bool} {Ma Mb : List Int} (ha : chk N Ea Ma = 0) (hb : chk N Eb Mb = 0) : (meetP N Ea Ma Eb Mb).1 = N ∧ chk N (meetP N Ea Ma Eb Mb).2.1 (meetP N Ea Ma Eb Mb).2.2 = 0 := by
  unfold meetP
  split
  · obtain ⟨n, rfl, hn, _⟩ := chk_zero ha
    exact ⟨rfl, chk_empty hn⟩
  · rename_i h
    rw [Bool.or_eq_true, not_or, Bool.not_eq_true, Bool.not_eq_true] at h
    obtain ⟨rfl, rfl⟩ := h
    exact clo_chk (chk_less ha hb)
theorem joinP_chk {N : Int} {Ea Eb : Bool} {Ma Mb : List Int} (ha : chk N Ea Ma = 0) (hb : chk N Eb Mb = 0) : (joinP N Ea Ma Eb Mb).1 = N ∧ chk N (joinP N Ea Ma Eb Mb).2.1 (joinP N Ea Ma Eb Mb).2.2 = 0 := by
  have h1 := clo_chk ha
  have h2 := clo_chk hb
  unfold joinP
  split
  · exact h2
  · split
    · exact h1
    · rename_i g1 g2
      rw [Bool.not_eq_true] at g1 g2
      rw [g1] at h1
      rw [g2] at h2
      exact ⟨rfl, chk_max h1.2 h2.2⟩
end Gn
end Go.Proofs.Ytkgddgckilledaa
