/- Plain bounds: the answers of the packages bound and gnomonref11 as functions on Int. No program in sight. -/
import Derived.Test.YtkgddgckilledaaNum
namespace Go.Proofs.Ytkgddgckilledaa
namespace Gn
/-- The bound that a number counts as. -/
def asB (a : Int) : Int := if a < -4611686018427387904 then -4611686018427387904 else if 4611686018427387904 < a then 9223372036854775807 else a
/-- Is a number a bound? -/
def isB (a : Int) : Bool := decide (a = 9223372036854775807) || (decide (-4611686018427387904 ≤ a) && decide (a ≤ 4611686018427387904))
def plus (a b : Int) : Int := if asB a = 9223372036854775807 ∨ asB b = 9223372036854775807 then 9223372036854775807 else asB (asB a + asB b)
def sat (a b : Int) : Bool := decide (asB a ≠ 9223372036854775807 ∧ asB b ≠ 9223372036854775807 ∧ ¬ (-4611686018427387904 ≤ asB a + asB b ∧ asB a + asB b ≤ 4611686018427387904))
def half (a : Int) : Int := if asB a = 9223372036854775807 then 9223372036854775807 else asB a / 2
def even (a : Int) : Int := if asB a = 9223372036854775807 then 9223372036854775807 else 2 * (asB a / 2)
def less (a b : Int) : Int := min (asB a) (asB b)
/-- What a bound looks like. -/
def Bd (x : Int) : Prop := x = 9223372036854775807 ∨ (-4611686018427387904 ≤ x ∧ x ≤ 4611686018427387904)
theorem Bd.i64 {x : Int} (h : Bd x) : I64 x := by unfold Bd at h; unfold I64; omega
theorem isB_iff (x : Int) : isB x = true ↔ Bd x := by simp [isB, Bd]
theorem asB_bd (a : Int) : Bd (asB a) := by unfold Bd asB; split <;> (try split) <;> omega
theorem asB_of {a : Int} (h : Bd a) : asB a = a := by
  unfold Bd at h; unfold asB; split
  · omega
  · split <;> omega
theorem asB_idem (a : Int) : asB (asB a) = asB a := asB_of (asB_bd a)
theorem bd_inf : Bd 9223372036854775807 := .inl rfl
theorem plus_bd (a b : Int) : Bd (plus a b) := by unfold plus; split; · exact bd_inf
                                                  exact asB_bd _
theorem half_bd (a : Int) : Bd (half a) := by
  have h := asB_bd a
  unfold half; split
  · exact bd_inf
  · unfold Bd at *; omega
theorem even_bd (a : Int) : Bd (even a) := by
  have h := asB_bd a
  unfold even; split
  · exact bd_inf
  · unfold Bd at *; omega
theorem less_bd (a b : Int) : Bd (less a b) := by
  have h := asB_bd a
  have h' := asB_bd b
  unfold less; unfold Bd at *; omega
theorem plus_comm (a b : Int) : plus a b = plus b a := by
  unfold plus
  rw [Int.add_comm]
  by_cases h : asB a = 9223372036854775807 ∨ asB b = 9223372036854775807
  · rw [if_pos h, if_pos h.symm]
  · rw [if_neg h, if_neg (fun k => h k.symm)]
theorem plus_as (a b : Int) : plus (asB a) b = plus a b := by unfold plus; rw [asB_idem]
theorem half_as (a : Int) : half (asB a) = half a := by unfold half; rw [asB_idem]
theorem half_inf (a : Int) : half a = 9223372036854775807 ↔ asB a = 9223372036854775807 := by
  have h := asB_bd a
  unfold half; split
  · simp [*]
  · unfold Bd at h; omega
theorem even_half (a : Int) : even a = if half a = 9223372036854775807 then 9223372036854775807 else 2 * half a := by
  by_cases h : asB a = 9223372036854775807
  · rw [if_pos ((half_inf a).2 h)]; unfold even; rw [if_pos h]
  · rw [if_neg (fun k => h ((half_inf a).1 k))]; unfold even half; rw [if_neg h, if_neg h]
theorem plus_mono {a c : Int} (b : Int) (h : a ≤ c) (hc : I64 c) : plus a b ≤ plus c b := by
  have h1 := asB_bd a
  have h2 := asB_bd b
  have h3 := asB_bd c
  have h4 : asB a ≤ asB c := by unfold I64 at hc; unfold asB; repeat' split <;> omega
  have h5 : asB (asB a + asB b) ≤ 9223372036854775807 := by have := asB_bd (asB a + asB b); unfold Bd at this; omega
  unfold plus
  by_cases hb : asB b = 9223372036854775807
  · rw [if_pos (.inr hb), if_pos (.inr hb)]; omega
  · by_cases hC : asB c = 9223372036854775807
    · rw [if_pos (c := asB c = _ ∨ _) (.inl hC)]; split <;> omega
    · have hA : asB a ≠ 9223372036854775807 := by unfold Bd at *; omega
      rw [if_neg (by omega), if_neg (by omega)]
      generalize asB a = x at *; generalize asB b = y at *; generalize asB c = z at *
      unfold Bd at *
      unfold asB; repeat' split <;> omega
theorem sat_iff (a b : Int) : sat a b = false ↔ (asB a = 9223372036854775807 ∨ asB b = 9223372036854775807 ∨ (-4611686018427387904 ≤ asB a + asB b ∧ asB a + asB b ≤ 4611686018427387904)) := by
  unfold sat; simp; omega
theorem plus_exact {a b : Int} (ha : Bd a) (hb : Bd b) (h : sat a b = false) :
    (plus a b = if a = 9223372036854775807 ∨ b = 9223372036854775807 then 9223372036854775807 else a + b) := by
  rw [sat_iff] at h
  rw [asB_of ha, asB_of hb] at h
  unfold plus
  rw [asB_of ha, asB_of hb]
  split
  · rfl
  · exact asB_of (by unfold Bd; omega)
theorem plus_assoc {a b c : Int} (h1 : sat a b = false) (h2 : sat b c = false) (h3 : sat (plus a b) c = false) (h4 : sat a (plus b c) = false) : plus (plus a b) c = plus a (plus b c) := by
  have e1 : plus a b = plus (asB a) (asB b) := by rw [plus_as, plus_comm, ← plus_as, plus_comm]
  have e2 : plus b c = plus (asB b) (asB c) := by rw [plus_as, plus_comm, ← plus_as, plus_comm]
  have s1 : sat (asB a) (asB b) = false := by unfold sat at *; rw [asB_idem, asB_idem]; exact h1
  have s2 : sat (asB b) (asB c) = false := by unfold sat at *; rw [asB_idem, asB_idem]; exact h2
  rw [e1] at h3 ⊢
  rw [e2] at h4 ⊢
  have s3 : sat (plus (asB a) (asB b)) (asB c) = false := by unfold sat at *; rw [asB_idem]; exact h3
  have s4 : sat (asB a) (plus (asB b) (asB c)) = false := by unfold sat at *; rw [asB_idem]; exact h4
  have e3 : ∀ z, plus z c = plus z (asB c) := fun z => by rw [plus_comm, ← plus_as, plus_comm]
  rw [e3, ← plus_as a]
  rw [plus_exact (plus_bd _ _) (asB_bd c) s3, plus_exact (asB_bd a) (plus_bd _ _) s4]
  rw [plus_exact (asB_bd a) (asB_bd b) s1, plus_exact (asB_bd b) (asB_bd c) s2]
  have b1 := asB_bd a
  have b2 := asB_bd b
  have b3 := asB_bd c
  have p1 := (sat_iff _ _).1 s1
  have p2 := (sat_iff _ _).1 s2
  rw [asB_idem, asB_idem] at p1 p2
  generalize asB a = x at *; generalize asB b = y at *; generalize asB c = z at *
  unfold Bd at *
  clear h1 h2 h3 h4 e1 e2 e3 s1 s2 s3 s4
  by_cases hx : x = 9223372036854775807 <;> by_cases hy : y = 9223372036854775807 <;> by_cases hz : z = 9223372036854775807 <;> simp only [hx, hy, hz, true_or, or_true, if_true, or_self, if_false, or_false, false_or] at p1 p2 ⊢
  · rw [if_neg (by omega), if_neg (by omega)]; omega
theorem twice_half (a : Int) : plus (half a) (half a) = even a := by
  have h := asB_bd a
  unfold plus
  rw [asB_of (half_bd a)]
  unfold half even
  by_cases h1 : asB a = 9223372036854775807
  · simp [h1]
  · rw [if_neg h1, if_neg h1]
    unfold Bd at h
    rw [if_neg (by omega), asB_of (by unfold Bd; omega)]
    omega
theorem even_le (a : Int) : even a ≤ less a 9223372036854775807 := by
  have h := asB_bd a
  unfold less even
  rw [asB_of bd_inf]
  unfold Bd at h
  split <;> omega
theorem half_twice {a : Int} (ha : Bd a) (h : sat a a = false) : half (plus a a) = a := by
  have hp := plus_bd a a
  rw [plus_exact ha ha h] at hp ⊢
  unfold half
  rw [asB_of hp]
  unfold Bd at *
  split at hp <;> (split <;> split <;> omega)
end Gn
end Go.Proofs.Ytkgddgckilledaa
