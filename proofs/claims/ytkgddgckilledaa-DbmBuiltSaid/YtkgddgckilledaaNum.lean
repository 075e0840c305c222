/- Plain arithmetic of 64-bit numbers: the answers of the packages num and gnomonref7 as functions on Int. No program in sight. -/
import Derived.RowKit
namespace Go.Proofs.Ytkgddgckilledaa
open Go.RowKit (wrap64)
namespace Gn
/-- A number of int64. -/
def I64 (x : Int) : Prop := -9223372036854775808 ≤ x ∧ x ≤ 9223372036854775807
instance (x : Int) : Decidable (I64 x) := by unfold I64; infer_instance
theorem wrap64_i64 (x : Int) : I64 (wrap64 x) := by unfold I64 wrap64; omega
theorem wrap64_eq {x : Int} (h : I64 x) : wrap64 x = x := by unfold I64 at h; unfold wrap64; omega
theorem wrap64_idem (x : Int) : wrap64 (wrap64 x) = wrap64 x := wrap64_eq (wrap64_i64 x)
theorem wrap64_spec (x : Int) : ∃ k : Int, wrap64 x = x + k * 18446744073709551616 ∧ (I64 x ↔ k = 0) := by
  refine ⟨-((x + 9223372036854775808) / 18446744073709551616), ?_, ?_⟩
  · unfold wrap64; omega
  · unfold I64; omega
/-- A value if it fits, else 0; and what is wrong. -/
def fitV (x : Int) : Int := if I64 x then x else 0
def fitW (x : Int) : Int := if I64 x then 0 else 1
theorem fitV_i64 (x : Int) : I64 (fitV x) := by unfold fitV; split; · assumption
                                                unfold I64; omega
def divW (a b : Int) : Int := if b = 0 then 2 else if a = -9223372036854775808 ∧ b = -1 then 1 else 0
def divV (a b : Int) : Int := if divW a b = 0 then a.tdiv b else 0
def remV (a b : Int) : Int := if divW a b = 0 then a.tmod b else 0
theorem divW_cases (a b : Int) : (divW a b = 2 ∧ b = 0) ∨ (divW a b = 1 ∧ a = -9223372036854775808 ∧ b = -1) ∨ (divW a b = 0 ∧ b ≠ 0 ∧ ¬ (a = -9223372036854775808 ∧ b = -1)) := by
  unfold divW; split
  · simp_all
  · split <;> simp_all
def cmp (op a b : Int) : Bool :=
  if op = 1 then decide (a < b) else if op = 2 then decide (a ≤ b) else if op = 3 then decide (a = b) else if op = 4 then decide (a ≠ b)
  else if op = 5 then decide (b < a) else if op = 6 then decide (b ≤ a) else false
def notOp (op : Int) : Int := if op = 1 then 6 else if op = 2 then 5 else if op = 3 then 4 else if op = 4 then 3 else if op = 5 then 2 else if op = 6 then 1 else 0
theorem natAbs_bound {a : Int} (h : I64 a) : a.natAbs ≤ 9223372036854775808 := by unfold I64 at h; omega
theorem tdiv_natAbs_le (a b : Int) : (a.tdiv b).natAbs ≤ a.natAbs := by
  rw [Int.natAbs_tdiv]; exact Nat.div_le_self _ _
theorem tdiv_i64 {a b : Int} (ha : I64 a) (h0 : b ≠ 0) (h : ¬ (a = -9223372036854775808 ∧ b = -1)) : I64 (a.tdiv b) := by
  have h1 := tdiv_natAbs_le a b
  unfold I64 at *
  by_cases hb : b = -1
  · subst hb
    have : a.tdiv (-1) = -a := by rw [Int.tdiv_neg, Int.tdiv_one]
    omega
  · by_cases hb1 : b = 1
    · subst hb1; rw [Int.tdiv_one]; omega
    · have h2 : (a.tdiv b).natAbs * 2 ≤ a.natAbs := by
        rw [Int.natAbs_tdiv]
        have : 2 ≤ b.natAbs := by omega
        calc a.natAbs / b.natAbs * 2 ≤ a.natAbs / b.natAbs * b.natAbs := Nat.mul_le_mul_left _ this
          _ ≤ a.natAbs := Nat.div_mul_le_self _ _
      omega
theorem tmod_i64 {a b : Int} (ha : I64 a) : I64 (a.tmod b) := by
  have : (a.tmod b).natAbs ≤ a.natAbs := by
    rw [Int.natAbs_tmod]; exact Nat.mod_le _ _
  have h2 : 0 ≤ a → 0 ≤ a.tmod b := fun h => Int.tmod_nonneg _ h
  have h3 : 0 ≤ -a → 0 ≤ (-a).tmod b := fun h => Int.tmod_nonneg _ h
  rw [Int.neg_tmod] at h3
  unfold I64 at *
  omega
theorem tmod_sign (a b : Int) : (0 ≤ a → 0 ≤ a.tmod b ∧ a.tmod b ≤ a) ∧ (a ≤ 0 → a.tmod b ≤ 0 ∧ a ≤ a.tmod b) := by
  have : (a.tmod b).natAbs ≤ a.natAbs := by
    rw [Int.natAbs_tmod]; exact Nat.mod_le _ _
  have h2 : 0 ≤ a → 0 ≤ a.tmod b := fun h => Int.tmod_nonneg _ h
  have h3 : 0 ≤ -a → 0 ≤ (-a).tmod b := fun h => Int.tmod_nonneg _ h
  rw [Int.neg_tmod] at h3
  omega
theorem rem_wrap {a b : Int} (ha : I64 a) (h1 : b ≠ 0) (h2 : ¬ (a = -9223372036854775808 ∧ b = -1)) : wrap64 (a - wrap64 (wrap64 (a.tdiv b) * b)) = a.tmod b := by
  rw [wrap64_eq (tdiv_i64 ha h1 h2)]
  have e := Int.mul_tdiv_add_tmod a b
  rw [Int.mul_comm] at e
  have s := tmod_sign a b
  have t := tmod_i64 (b := b) ha
  have u : I64 (a.tdiv b * b) := by unfold I64 at *; omega
  rw [wrap64_eq u, show a - a.tdiv b * b = a.tmod b by omega, wrap64_eq t]
theorem i64_0 : I64 0 := by decide
theorem divV_i64 (a b : Int) (ha : I64 a) : I64 (divV a b) := by
  unfold divV
  rcases divW_cases a b with ⟨h, h1⟩ | ⟨h, h1, h2⟩ | ⟨h, h1, h2⟩ <;> simp only [h]
  · exact i64_0
  · exact i64_0
  · simp; exact tdiv_i64 ha h1 h2
theorem remV_i64 (a b : Int) (ha : I64 a) : I64 (remV a b) := by
  unfold remV; split
  · exact tmod_i64 ha
  · exact i64_0
/-- a product, divided: it was wrapped just if the quotient is another. -/
theorem mul_back {a b : Int} (hb : I64 b) (h0 : b ≠ 0) : (wrap64 (a * b)).tdiv b = a ↔ I64 (a * b) := by
  constructor
  · intro h
    obtain ⟨k, hk, hz⟩ := wrap64_spec (a * b)
    rw [hz]
    have e := Int.mul_tdiv_add_tmod (wrap64 (a * b)) b
    rw [h, hk] at e
    have hm : ((a * b + k * 18446744073709551616).tmod b).natAbs < b.natAbs := by
      rw [Int.natAbs_tmod]; exact Nat.mod_lt _ (by omega)
    rw [Int.mul_comm b a] at e
    have e' : (a * b + k * 18446744073709551616).tmod b = k * 18446744073709551616 := by omega
    rw [e'] at hm
    unfold I64 at hb
    omega
  · intro h
    rw [wrap64_eq h, Int.mul_tdiv_cancel _ h0]
theorem mul_neg_abs {a b : Int} (h : a < 0 ∧ ¬ b < 0 ∨ ¬ a < 0 ∧ b < 0) : a * b = -((a.natAbs * b.natAbs : Nat) : Int) := by
  rw [Int.natCast_mul]
  rcases h with ⟨h1, h2⟩ | ⟨h1, h2⟩
  · rw [show ((a.natAbs : Nat) : Int) = -a by omega, show ((b.natAbs : Nat) : Int) = b by omega, Int.neg_mul, Int.neg_neg]
  · rw [show ((a.natAbs : Nat) : Int) = a by omega, show ((b.natAbs : Nat) : Int) = -b by omega, Int.mul_neg, Int.neg_neg]
theorem mul_pos_abs {a b : Int} (h : a < 0 ∧ b < 0 ∨ ¬ a < 0 ∧ ¬ b < 0) : a * b = ((a.natAbs * b.natAbs : Nat) : Int) := by
  rw [Int.natCast_mul]
  rcases h with ⟨h1, h2⟩ | ⟨h1, h2⟩
  · rw [show ((a.natAbs : Nat) : Int) = -a by omega, show ((b.natAbs : Nat) : Int) = -b by omega, Int.neg_mul_neg]
  · rw [show ((a.natAbs : Nat) : Int) = a by omega, show ((b.natAbs : Nat) : Int) = b by omega]
end Gn
end Go.Proofs.Ytkgddgckilledaa
