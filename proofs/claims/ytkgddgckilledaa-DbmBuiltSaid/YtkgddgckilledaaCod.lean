/- Plain numbers as bytes: the answers of the packages code and gnomonref18. No program in sight. -/
import Derived.Test.YtkgddgckilledaaMem
import Derived.Test.YtkgddgckilledaaNum
namespace Go.Proofs.Ytkgddgckilledaa
namespace Gn
/-- A number's bytes. -/
def put (n : Nat) : List Int := if n < 128 then [(n : Int)] else ((128 + n % 128 : Nat) : Int) :: put (n / 128)
termination_by n
decreasing_by omega
theorem put_small {n : Nat} (h : n < 128) : put n = [(n : Int)] := by rw [put, if_pos h]
theorem put_big {n : Nat} (h : ¬ n < 128) : put n = ((128 + n % 128 : Nat) : Int) :: put (n / 128) := by rw [put, if_neg h]
/-- Bytes. -/
def Bts (b : List Int) : Prop := ∀ x ∈ b, 0 ≤ x ∧ x ≤ 255
theorem put_bts (n : Nat) : Bts (put n) := by
  induction n using Nat.strongRecOn with
  | ind n ih =>
    by_cases h : n < 128
    · rw [put_small h]; intro x hx; simp at hx; omega
    · rw [put_big h]; intro x hx
      rcases List.mem_cons.1 hx with rfl | hx
      · omega
      · exact ih _ (by omega) x hx
theorem put_pos (n : Nat) : 0 < (put n).length := by
  by_cases h : n < 128
  · rw [put_small h]; simp
  · rw [put_big h]; simp
theorem put_len (k : Nat) : ∀ n : Nat, n < 128 ^ k → 0 < k → (put n).length ≤ k := by
  induction k with
  | zero => intro n _ h; omega
  | succ k ih =>
    intro n hn _
    by_cases h : n < 128
    · rw [put_small h]; simp
    · rw [put_big h]
      rw [Nat.pow_succ] at hn
      have hk : 0 < k := by
        rcases Nat.eq_zero_or_pos k with rfl | hk
        · simp at hn; omega
        · exact hk
      have := ih (n / 128) (by omega) hk
      simp; omega
theorem put_len10 {n : Nat} (h : (n : Int) ≤ 18446744073709551615) : (put n).length ≤ 10 := put_len 10 n (by omega) (by omega)
theorem put_len_mono' (n : Nat) : ∀ m : Nat, m ≤ n → (put m).length ≤ (put n).length := by
  induction n using Nat.strongRecOn with
  | ind n ih =>
    intro m h
    by_cases hm : m < 128
    · rw [put_small hm]; have := put_pos n; simp; omega
    · rw [put_big hm, put_big (n := n) (by omega)]
      have := ih (n / 128) (by omega) (m / 128) (by omega)
      simp; omega
theorem put_len_mono {m n : Nat} (h : m ≤ n) : (put m).length ≤ (put n).length := put_len_mono' n m h
/-- The number at the beginning: its value, how many bytes it has, the error. -/
def tk (i acc : Nat) : List Int → Nat × Nat × Int
  | [] => (0, 0, 180)
  | x :: r =>
    if (i = 9 ∧ 1 < x) ∨ (0 < i ∧ x = 0) then (0, 0, 181)
    else if x < 128 then (acc + x.toNat % 128 * 128 ^ i, i + 1, 0)
    else tk (i + 1) (acc + x.toNat % 128 * 128 ^ i) r
def take (b : List Int) : Nat × Nat × Int := tk 0 0 b
theorem tk_put (more : List Int) (n : Nat) : ∀ i acc : Nat, n * 128 ^ i < 128 ^ 9 * 2 → (0 < i → 0 < n) → tk i acc (put n ++ more) = (acc + n * 128 ^ i, i + (put n).length, 0) := by
  induction n using Nat.strongRecOn with
  | ind n ih =>
    intro i acc hn hi
    have h9 : i = 9 → n < 2 := by
      rintro rfl
      rcases Nat.lt_or_ge n 2 with h | h
      · exact h
      · have := Nat.mul_le_mul_right (128 ^ 9) h; omega
    by_cases h : n < 128
    · rw [put_small h]
      simp only [List.cons_append, List.nil_append, tk]
      rw [if_neg (by omega), if_pos (by omega), show ((n : Int).toNat % 128) = n by omega]
      rfl
    · rw [put_big h]
      simp only [List.cons_append, tk]
      rw [if_neg (by omega), if_neg (by omega)]
      have e : ((128 + n % 128 : Nat) : Int).toNat % 128 = n % 128 := by omega
      rw [e]
      have hd : n = 128 * (n / 128) + n % 128 := by omega
      have hle : (n / 128) * 128 ^ (i + 1) ≤ n * 128 ^ i := by
        rw [Nat.pow_succ, Nat.mul_comm (128 ^ i), ← Nat.mul_assoc]
        exact Nat.mul_le_mul_right _ (by omega)
      rw [ih (n / 128) (by omega) (i + 1) _ (by omega) (by omega)]
      congr 1
      · have : n * 128 ^ i = (n % 128) * 128 ^ i + (n / 128) * 128 ^ (i + 1) := by
          rw [Nat.pow_succ, Nat.mul_comm (128 ^ i), ← Nat.mul_assoc, ← Nat.add_mul]
          congr 1; omega
        omega
      · congr 1; simp; omega
theorem take_put {n : Nat} (more : List Int) (h : (n : Int) ≤ 18446744073709551615) : take (put n ++ more) = (n, (put n).length, 0) := by
  unfold take
  rw [tk_put more n 0 0 (by omega) (by omega)]
  simp
theorem tk_back {b : List Int} (hb : Bts b) : ∀ {i acc v k : Nat}, i ≤ 9 → tk i acc b = (v, k, 0) →
    ∃ m, v = acc + m * 128 ^ i ∧ i < k ∧ k - i ≤ b.length ∧ b.take (k - i) = put m ∧ (0 < i → 0 < m) ∧ m * 128 ^ i < 128 ^ 9 * 2 := by
  induction b with
  | nil => intro i acc v k _ h; simp [tk] at h
  | cons x r ih =>
    intro i acc v k hi h
    have hx := hb x (by simp)
    simp only [tk] at h
    split at h
    · simp at h
    · rename_i h1
      split at h
      · rename_i h2
        simp only [Prod.mk.injEq] at h
        obtain ⟨rfl, rfl, _⟩ := h
        refine ⟨x.toNat, ?_, by omega, by simp, ?_, by omega, ?_⟩
        · rw [Nat.mod_eq_of_lt (by omega)]
        · rw [show i + 1 - i = 1 by omega, put_small (by omega)]
          simp; omega
        · rcases Nat.lt_or_ge i 9 with h9 | h9
          · have a : 128 ^ i ≤ 128 ^ 8 := Nat.pow_le_pow_right (by omega) (by omega)
            have := Nat.mul_le_mul (show x.toNat ≤ 127 by omega) a
            have e : (127 : Nat) * 128 ^ 8 < 128 ^ 9 * 2 := by decide
            omega
          · obtain rfl : i = 9 := by omega
            have := Nat.mul_le_mul_right (128 ^ 9) (show x.toNat ≤ 1 by omega)
            omega
      · rename_i h2
        have h9 : i < 9 := by omega
        obtain ⟨m, hv, hk, hl, ht, hp, hs⟩ := ih (fun y hy => hb y (by simp [hy])) (by omega) h
        have hm := hp (by omega)
        refine ⟨x.toNat % 128 + 128 * m, ?_, by omega, by simp; omega, ?_, by omega, ?_⟩
        · rw [hv, Nat.add_mul, Nat.pow_succ]
          rw [Nat.mul_comm 128 m, Nat.mul_assoc, Nat.mul_comm 128 (128 ^ i)]
          omega
        · rw [show k - i = (k - (i + 1)) + 1 by omega, List.take_succ_cons, ht]
          rw [put_big (n := x.toNat % 128 + 128 * m) (by omega)]
          congr 1
          · omega
          · congr 1; omega
        · have e : m * 128 ^ (i + 1) = 128 * m * 128 ^ i := by rw [Nat.pow_succ, Nat.mul_comm 128 m, Nat.mul_assoc, Nat.mul_comm 128 (128 ^ i)]
          have a : 128 ^ i ≤ 128 ^ 8 := Nat.pow_le_pow_right (by omega) (by omega)
          -- (m + 1) * 128 ^ (i + 1) is at most 128 ^ 9 * 2, for 128 ^ (i + 1) divides it
          have hdvd : (128 : Nat) ^ 9 * 2 = 128 ^ (8 - i) * 2 * 128 ^ (i + 1) := by
            rw [Nat.mul_right_comm, ← Nat.pow_add]
            congr 2; omega
          have hlt : m < 128 ^ (8 - i) * 2 := by
            rw [hdvd] at hs
            exact Nat.lt_of_mul_lt_mul_right hs
          have hle : (m + 1) * 128 ^ (i + 1) ≤ 128 ^ 9 * 2 := by
            rw [hdvd]
            exact Nat.mul_le_mul_right _ hlt
          have hr : (x.toNat % 128 + 128 * m) * 128 ^ i < (128 * (m + 1)) * 128 ^ i := Nat.mul_lt_mul_of_pos_right (by omega) (Nat.pow_pos (by omega))
          have e2 : (128 * (m + 1)) * 128 ^ i = (m + 1) * 128 ^ (i + 1) := by rw [Nat.pow_succ, Nat.mul_comm 128 (m + 1), Nat.mul_assoc, Nat.mul_comm 128 (128 ^ i)]
          omega
theorem take_back {b : List Int} (hb : Bts b) {v k : Nat} (h : take b = (v, k, 0)) : 0 < k ∧ k ≤ b.length ∧ b.take k = put v ∧ (v : Int) ≤ 18446744073709551615 := by
  obtain ⟨m, hv, hk, hl, ht, _, hs⟩ := tk_back hb (by omega) h
  simp at hv hl ht hs
  subst hv
  exact ⟨hk, hl, ht, by omega⟩
theorem tk_err {b : List Int} : ∀ {i acc : Nat}, (tk i acc b).2.2 ≠ 0 → tk i acc b = (0, 0, (tk i acc b).2.2) ∧ ((tk i acc b).2.2 = 180 ∨ (tk i acc b).2.2 = 181) := by
  induction b with
  | nil => intro i acc _; simp [tk]
  | cons x r ih =>
    intro i acc h
    simp only [tk] at h ⊢
    split
    · simp
    · rename_i h1
      rw [if_neg h1] at h
      split
      · rename_i h2; rw [if_pos h2] at h; simp at h
      · rename_i h2
        rw [if_neg h2] at h
        exact ih h
/-- All numbers, with fuel. -/
def takeAllF : Nat → List Int → List Nat × Int
  | 0, _ => ([], 0)
  | f + 1, b =>
    if b = [] then ([], 0)
    else if (take b).2.2 = 0 then
      let r := takeAllF f (b.drop (take b).2.1)
      if r.2 = 0 then ((take b).1 :: r.1, 0) else ([], r.2)
    else ([], (take b).2.2)
def takeAll (b : List Int) : List Nat × Int := takeAllF b.length b
def putAll : List Nat → List Int
  | [] => []
  | n :: l => put n ++ putAll l
theorem putAll_append (l m : List Nat) : putAll (l ++ m) = putAll l ++ putAll m := by
  induction l with
  | nil => rfl
  | cons n l ih => simp [putAll, ih]
def fold (n : Int) : Int := if n < 0 then -2 * n - 1 else 2 * n
def unfold' (n : Int) : Int := if n % 2 = 1 then -(n / 2) - 1 else n / 2
theorem fold_unfold {n : Int} (h : 0 ≤ n) : fold (unfold' n) = n := by unfold fold unfold'; split <;> split <;> omega
theorem unfold_fold (m : Int) : unfold' (fold m) = m := by unfold fold unfold'; split <;> split <;> omega
end Gn
end Go.Proofs.Ytkgddgckilledaa
