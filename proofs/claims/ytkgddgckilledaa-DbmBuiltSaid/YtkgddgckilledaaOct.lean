/- Octagons in plain words: sides, cells, what may be. -/
import Derived.Test.YtkgddgckilledaaBnd
import Derived.Test.YtkgddgckilledaaMem
namespace Go.Proofs.Ytkgddgckilledaa
open Go.RowKit
namespace Gn
/-- The side across. -/
def ac (i : Nat) : Nat := if i % 2 = 0 then i + 1 else i - 1
theorem ac_ac (i : Nat) : ac (ac i) = i := by unfold ac; split <;> split <;> omega
theorem ac_lt {i n : Nat} (h : i < 2 * n) : ac i < 2 * n := by unfold ac; split <;> omega
theorem ac_ne (i : Nat) : ac i ≠ i := by unfold ac; split <;> omega
theorem ac_even (i : Nat) : ac (2 * i) = 2 * i + 1 := by unfold ac; rw [if_pos (by omega)]
theorem ac_odd (i : Nat) : ac (2 * i + 1) = 2 * i := by unfold ac; rw [if_neg (by omega)]; omega
theorem sq2 (n : Nat) : 2 * n * (2 * n) = 4 * n * n := by rw [Nat.mul_mul_mul_comm, ← Nat.mul_assoc]
theorem idx_lt {m i j : Nat} (hi : i < m) (hj : j < m) : i * m + j < m * m := by
  have : (i + 1) * m ≤ m * m := Nat.mul_le_mul_right m hi
  rw [Nat.add_mul] at this; omega
theorem idx_inj {m i j i' j' : Nat} (hj : j < m) (hj' : j' < m) (h : i * m + j = i' * m + j') : i = i' ∧ j = j' := by
  have h1 : (i * m + j) / m = i := by rw [Nat.mul_comm, Nat.mul_add_div (by omega), Nat.div_eq_of_lt hj]; omega
  have h2 : (i' * m + j') / m = i' := by rw [Nat.mul_comm, Nat.mul_add_div (by omega), Nat.div_eq_of_lt hj']; omega
  have : i = i' := by rw [← h1, h, h2]
  subst this; exact ⟨rfl, by omega⟩
/-- A cell of a matrix of side m. -/
def cl (m : Nat) (M : List Int) (i j : Nat) : Int := nth M (i * m + j)
/-- A matrix of side m, by its cells. -/
def mat (m : Nat) (f : Nat → Nat → Int) : List Int := (List.range (m * m)).map fun k => f (k / m) (k % m)
theorem mat_len (m : Nat) (f : Nat → Nat → Int) : (mat m f).length = m * m := by simp [mat]
theorem cl_mat {m : Nat} {f : Nat → Nat → Int} {i j : Nat} (hi : i < m) (hj : j < m) : cl m (mat m f) i j = f i j := by
  have h := idx_lt hi hj
  have h1 : (i * m + j) / m = i := by rw [Nat.mul_comm, Nat.mul_add_div (by omega), Nat.div_eq_of_lt hj]; omega
  have h2 : (i * m + j) % m = j := by rw [Nat.mul_comm, Nat.mul_add_mod, Nat.mod_eq_of_lt hj]
  simp [cl, nth, mat, h, h1, h2]
theorem div_mod_lt {m k : Nat} (h : k < m * m) : k / m < m ∧ k % m < m ∧ k / m * m + k % m = k := by
  have hm : 0 < m := by
    rcases Nat.eq_zero_or_pos m with h0 | h0
    · subst h0; omega
    · exact h0
  exact ⟨Nat.div_lt_of_lt_mul h, Nat.mod_lt _ hm, by rw [Nat.mul_comm]; exact Nat.div_add_mod k m⟩
theorem mat_ext {m : Nat} {X Y : List Int} (hx : X.length = m * m) (hy : Y.length = m * m) (h : ∀ i, i < m → ∀ j, j < m → cl m X i j = cl m Y i j) : X = Y := by
  refine list_eq_nth (by rw [hx, hy]) fun k hk => ?_
  obtain ⟨h1, h2, h3⟩ := div_mod_lt (m := m) (k := k) (by omega)
  have := h _ h1 _ h2
  unfold cl at this
  rwa [h3] at this
theorem eq_mat {m : Nat} {X : List Int} {f : Nat → Nat → Int} (hx : X.length = m * m) (h : ∀ i, i < m → ∀ j, j < m → cl m X i j = f i j) : X = mat m f :=
  mat_ext hx (mat_len m f) fun i hi j hj => by rw [h i hi j hj, cl_mat hi hj]
theorem mat_congr {m : Nat} {f g : Nat → Nat → Int} (h : ∀ i, i < m → ∀ j, j < m → f i j = g i j) : mat m f = mat m g :=
  eq_mat (mat_len m f) fun i hi j hj => by rw [cl_mat hi hj, h i hi j hj]
/-- One cell stored. -/
theorem cl_set {m : Nat} {X : List Int} {i j i' j' : Nat} {v : Int} (hx : X.length = m * m) (hi : i < m) (hj : j < m) (hj' : j' < m) :
    cl m (X.set (i * m + j) v) i' j' = if i' = i ∧ j' = j then v else cl m X i' j' := by
  unfold cl
  by_cases h : i' = i ∧ j' = j
  · rw [if_pos h, h.1, h.2]
    have := idx_lt hi hj
    simp [nth, hx, this]
  · rw [if_neg h]
    have hne : i * m + j ≠ i' * m + j' := fun e => h (by have := idx_inj hj hj' e; exact ⟨this.1.symm, this.2.symm⟩)
    simp [nth, hne]
/-- The octagon that has every point. -/
def topM (m : Nat) : List Int := mat m fun i j => if i = j then 0 else 9223372036854775807
theorem topM_len (m : Nat) : (topM m).length = m * m := mat_len _ _
/-- What Check asks of one cell. -/
def okC (m : Nat) (M : List Int) (i j : Nat) : Prop := isB (cl m M i j) ∧ (i = j → cl m M i j = 0) ∧ cl m M i j = cl m M (ac j) (ac i)
def okM (m : Nat) (M : List Int) : Prop := ∀ i, i < m → ∀ j, j < m → okC m M i j
instance (m : Nat) (M : List Int) (i j : Nat) : Decidable (okC m M i j) := by unfold okC; infer_instance
instance (m : Nat) (M : List Int) : Decidable (okM m M) := by unfold okM; infer_instance
/-- What is wrong with an octagon. -/
def chk (N : Int) (E : Bool) (M : List Int) : Int :=
  if N < 0 ∨ 64 < N ∨ (E = true ∧ 0 < M.length) ∨ (E = false ∧ (M.length : Int) ≠ 4 * N * N) then 120
  else if E = true then 0 else if okM (2 * N.toNat) M then 0 else 121
end Gn
end Go.Proofs.Ytkgddgckilledaa
