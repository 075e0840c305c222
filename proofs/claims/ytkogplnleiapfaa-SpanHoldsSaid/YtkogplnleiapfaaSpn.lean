/- Plain: ranges: what the packages span and gnomonref15 tell of two of them. No program in sight. -/
import Derived.Test.YtkogplnleiapfaaNum
namespace Go.Proofs.Ytkogplnleiapfaa
set_option linter.unusedVariables false
namespace Gn
/-- A range: its ends, and whether they are there. -/
structure Rg where
  lo : Int
  hi : Int
  hl : Bool
  hh : Bool
def Rg.none : Rg := ⟨0, 0, false, false⟩
def nearB (n : Int) : Bool := decide (-1073741824 ≤ n ∧ n ≤ 1073741824)
theorem nearB_iff {n : Int} : nearB n = true ↔ (-1073741824 ≤ n ∧ n ≤ 1073741824) := by simp [nearB]
theorem nearB_no {n : Int} (h : ¬ (-1073741824 ≤ n ∧ n ≤ 1073741824)) : nearB n = false := decide_eq_false h
/-- May two ranges be multiplied? -/
def mulB (a b : Rg) : Bool := a.hl && (a.hh && (b.hl && (b.hh && (nearB a.lo && (nearB a.hi && (nearB b.lo && nearB b.hi))))))
def least (a b : Rg) : Int := min (min (a.lo * b.lo) (a.lo * b.hi)) (min (a.hi * b.lo) (a.hi * b.hi))
def most (a b : Rg) : Int := max (max (a.lo * b.lo) (a.lo * b.hi)) (max (a.hi * b.lo) (a.hi * b.hi))
def mulR (a b : Rg) : Rg := if mulB a b = true then ⟨least a b, most a b, true, true⟩ else Rg.none
/-- The one number above 0 that a range has. -/
def oneV (r : Rg) : Int := if (r.hl && (r.hh && (decide (r.lo = r.hi) && decide (0 < r.lo)))) = true then r.lo else 0
def toR (n : Int) (p : Bool) (m : Int) (q : Bool) : Rg := ⟨if p = true then n else 0, if q = true then m else 0, p, q⟩
def divR (a b : Rg) : Rg := if oneV b = 0 then Rg.none else toR (a.lo.tdiv (oneV b)) a.hl (a.hi.tdiv (oneV b)) a.hh
def upB (a : Rg) : Bool := a.hl && decide (0 ≤ a.lo)
def remR (a b : Rg) : Rg := if oneV b = 0 then Rg.none else
  ⟨if upB a = true then 0 else 1 - oneV b, if (a.hh && decide (a.hi ≤ 0)) = true then 0 else if (a.hh && upB a) = true then min (oneV b - 1) a.hi else oneV b - 1, true, true⟩
def hasR (r : Rg) (x : Int) : Bool := !(r.hl && decide (x < r.lo)) && !(r.hh && decide (r.hi < x))
theorem hasR_iff {r : Rg} {x : Int} : hasR r x = true ↔ (r.hl = true → r.lo ≤ x) ∧ (r.hh = true → x ≤ r.hi) := by
  unfold hasR
  cases r.hl <;> cases r.hh <;> simp
theorem oneV_pos {r : Rg} (h : oneV r ≠ 0) : r.hl = true ∧ r.hh = true ∧ r.lo = r.hi ∧ 0 < r.lo ∧ oneV r = r.lo := by
  unfold oneV at *
  split at h
  · rename_i k
    rw [if_pos k]
    simp only [Bool.and_eq_true, decide_eq_true_eq] at k
    exact ⟨k.1, k.2.1, k.2.2.1, k.2.2.2, rfl⟩
  · exact absurd rfl h
/-- A product lies between the products of the ends. -/
theorem mul_between {a b c d x y : Int} (h1 : a ≤ x) (h2 : x ≤ b) (h3 : c ≤ y) (h4 : y ≤ d) : min (min (a * c) (a * d)) (min (b * c) (b * d)) ≤ x * y ∧ x * y ≤ max (max (a * c) (a * d)) (max (b * c) (b * d)) := by
  have e1 : a * c ≤ a * y ∨ a * d ≤ a * y := by
    rcases Int.le_total 0 a with h | h
    · exact .inl (Int.mul_le_mul_of_nonneg_left h3 h)
    · exact .inr (Int.mul_le_mul_of_nonpos_left h h4)
  have e2 : b * c ≤ b * y ∨ b * d ≤ b * y := by
    rcases Int.le_total 0 b with h | h
    · exact .inl (Int.mul_le_mul_of_nonneg_left h3 h)
    · exact .inr (Int.mul_le_mul_of_nonpos_left h h4)
  have e3 : a * y ≤ a * c ∨ a * y ≤ a * d := by
    rcases Int.le_total 0 a with h | h
    · exact .inr (Int.mul_le_mul_of_nonneg_left h4 h)
    · exact .inl (Int.mul_le_mul_of_nonpos_left h h3)
  have e4 : b * y ≤ b * c ∨ b * y ≤ b * d := by
    rcases Int.le_total 0 b with h | h
    · exact .inr (Int.mul_le_mul_of_nonneg_left h4 h)
    · exact .inl (Int.mul_le_mul_of_nonpos_left h h3)
  have e5 : (a * y ≤ x * y ∧ x * y ≤ b * y) ∨ (b * y ≤ x * y ∧ x * y ≤ a * y) := by
    rcases Int.le_total 0 y with h | h
    · exact .inl ⟨Int.mul_le_mul_of_nonneg_right h1 h, Int.mul_le_mul_of_nonneg_right h2 h⟩
    · exact .inr ⟨Int.mul_le_mul_of_nonpos_right h2 h, Int.mul_le_mul_of_nonpos_right h1 h⟩
  omega
theorem tdiv_mono {a b k : Int} (hk : 0 < k) (h : a ≤ b) : a.tdiv k ≤ b.tdiv k := Int.tdiv_le_tdiv hk h
theorem has_mul {a b : Rg} {x y : Int} (ha : hasR a x = true) (hb : hasR b y = true) : hasR (mulR a b) (x * y) = true := by
  rw [hasR_iff] at ha hb ⊢
  unfold mulR
  split
  · rename_i h
    unfold mulB at h
    simp only [Bool.and_eq_true] at h
    have k := mul_between (ha.1 h.1) (ha.2 h.2.1) (hb.1 h.2.2.1) (hb.2 h.2.2.2.1)
    exact ⟨fun _ => k.1, fun _ => k.2⟩
  · exact ⟨fun h => Bool.noConfusion h, fun h => Bool.noConfusion h⟩
theorem has_div {a b : Rg} {x y : Int} (ha : hasR a x = true) (hb : hasR b y = true) : hasR (divR a b) (x.tdiv y) = true := by
  rw [hasR_iff] at ha hb ⊢
  unfold divR
  by_cases h : oneV b = 0
  · rw [if_pos h]; exact ⟨fun h => Bool.noConfusion h, fun h => Bool.noConfusion h⟩
  · rw [if_neg h]
    obtain ⟨h1, h2, h3, h4, h5⟩ := oneV_pos h
    have hy : y = oneV b := by have := hb.1 h1; have := hb.2 h2; omega
    have hp : 0 < y := by omega
    rw [← hy]
    refine ⟨fun k => ?_, fun k => ?_⟩
    · have k' : a.hl = true := k
      show (if a.hl = true then a.lo.tdiv y else 0) ≤ _
      rw [if_pos k']; exact tdiv_mono hp (ha.1 k')
    · have k' : a.hh = true := k
      show _ ≤ (if a.hh = true then a.hi.tdiv y else 0)
      rw [if_pos k']; exact tdiv_mono hp (ha.2 k')
theorem has_rem {a b : Rg} {x y : Int} (ha : hasR a x = true) (hb : hasR b y = true) : hasR (remR a b) (x.tmod y) = true := by
  rw [hasR_iff] at ha hb ⊢
  unfold remR
  by_cases h : oneV b = 0
  · rw [if_pos h]; exact ⟨fun h => Bool.noConfusion h, fun h => Bool.noConfusion h⟩
  · rw [if_neg h]
    obtain ⟨h1, h2, h3, h4, h5⟩ := oneV_pos h
    have hy : y = oneV b := by have := hb.1 h1; have := hb.2 h2; omega
    have hp : 0 < y := by omega
    rw [← hy]
    have m1 : x.tmod y < y := Int.tmod_lt_of_pos x hp
    have m2 : -y < x.tmod y := by
      have := Int.tmod_lt_of_pos (-x) hp
      rw [Int.neg_tmod] at this; omega
    have m3 := tmod_sign x y
    refine ⟨fun _ => ?_, fun _ => ?_⟩
    · show (if upB a = true then (0 : Int) else 1 - y) ≤ x.tmod y
      split
      · rename_i k
        unfold upB at k
        simp only [Bool.and_eq_true, decide_eq_true_eq] at k
        have := ha.1 k.1
        exact (m3.1 (by omega)).1
      · omega
    · show x.tmod y ≤ (if (a.hh && decide (a.hi ≤ 0)) = true then (0 : Int) else if (a.hh && upB a) = true then min (y - 1) a.hi else y - 1)
      split
      · rename_i k
        simp only [Bool.and_eq_true, decide_eq_true_eq] at k
        have := ha.2 k.1
        exact (m3.2 (by omega)).1
      · split
        · rename_i k
          unfold upB at k
          simp only [Bool.and_eq_true, decide_eq_true_eq] at k
          have := ha.2 k.1
          have := ha.1 k.2.1
          have := (m3.1 (by omega)).2
          omega
        · omega
end Gn
end Go.Proofs.Ytkogplnleiapfaa
