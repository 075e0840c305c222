/- Plain: places, and the bytes of a certificate. No program in sight. -/
import Derived.Test.YtkgddgckilledaaOctE
import Derived.Test.YtkgddgckilledaaCodT
namespace Go.Proofs.Ytkgddgckilledaa
open Go.RowKit
set_option linter.unusedVariables false
set_option linter.unusedSimpArgs false
namespace Gn
/-- Is a pair of sides not behind its mirror? -/
def fst2 (i j : Nat) : Bool := decide (i < ac j ∨ (i = ac j ∧ j ≤ ac i))
def isP (i j : Nat) : Bool := decide (i ≠ j) && fst2 i j
def rowP (i k : Nat) : List (Nat × Nat) := ((List.range k).filter fun j => isP i j).map fun j => (i, j)
theorem rowP_succ (i k : Nat) : rowP i (k + 1) = if isP i k = true then rowP i k ++ [(i, k)] else rowP i k := by
  unfold rowP
  rw [List.range_succ, List.filter_append, List.map_append]
  cases h : isP i k <;> simp [h]
theorem rowP_zero (i : Nat) : rowP i 0 = [] := rfl
theorem rowP_len (i k : Nat) : (rowP i k).length ≤ k := by
  unfold rowP
  rw [List.length_map]
  exact Nat.le_trans (List.length_filter_le _ _) (by simp)
def pairsTo (n k : Nat) : List (Nat × Nat) := (List.range k).flatMap fun i => rowP i (2 * n)
theorem pairsTo_succ (n k : Nat) : pairsTo n (k + 1) = pairsTo n k ++ rowP k (2 * n) := by
  unfold pairsTo; rw [List.range_succ, List.flatMap_append]; simp
theorem pairsTo_len (n : Nat) : ∀ k, (pairsTo n k).length ≤ k * (2 * n)
  | 0 => by simp [pairsTo]
  | k + 1 => by
    rw [pairsTo_succ, List.length_append, Nat.add_mul]
    have := pairsTo_len n k
    have := rowP_len k (2 * n)
    omega
def pairs (n : Nat) : List (Nat × Nat) := pairsTo n (2 * n)
theorem pairs_len (n : Nat) : (pairs n).length ≤ (2 * n) * (2 * n) := pairsTo_len n (2 * n)
theorem pairs_mem {n : Nat} {p : Nat × Nat} : p ∈ pairs n ↔ p.1 < 2 * n ∧ p.2 < 2 * n ∧ isP p.1 p.2 = true := by
  obtain ⟨a, b⟩ := p
  unfold pairs pairsTo rowP
  simp only [List.mem_flatMap, List.mem_range, List.mem_map, List.mem_filter, Prod.mk.injEq]
  constructor
  · rintro ⟨i, hi, j, ⟨hj, hp⟩, rfl, rfl⟩; exact ⟨hi, hj, hp⟩
  · rintro ⟨h1, h2, h3⟩; exact ⟨a, h1, b, ⟨h2, h3⟩, rfl, rfl⟩
/-- The k-th pair. -/
def pfst (ps : List (Nat × Nat)) (k : Nat) : Nat := (ps.getD k (0, 0)).1
def psnd (ps : List (Nat × Nat)) (k : Nat) : Nat := (ps.getD k (0, 0)).2
theorem pget_mem {ps : List (Nat × Nat)} {k : Nat} (h : k < ps.length) : (pfst ps k, psnd ps k) ∈ ps := by
  unfold pfst psnd
  rw [List.getD_eq_getElem?_getD, List.getElem?_eq_getElem h]
  exact List.getElem_mem h
/-- Numbers under way: those to be put, the next place, how many. -/
structure ES where
  l : List Nat
  nxt : Nat
  cnt : Nat
def encStep (m : Nat) (M : List Int) (ps : List (Nat × Nat)) (k : Nat) (s : ES) : ES :=
  if cl m M (pfst ps k) (psnd ps k) = 9223372036854775807 then s else ⟨s.l ++ [k - s.nxt, (fold (cl m M (pfst ps k) (psnd ps k))).toNat], k + 1, s.cnt + 1⟩
def encTo (m : Nat) (M : List Int) (ps : List (Nat × Nat)) : Nat → ES
  | 0 => ⟨[], 0, 0⟩
  | k + 1 => encStep m M ps k (encTo m M ps k)
theorem encTo_succ (m : Nat) (M : List Int) (ps : List (Nat × Nat)) (k : Nat) : encTo m M ps (k + 1) = encStep m M ps k (encTo m M ps k) := rfl
theorem fold_u64 {v : Int} (h : I64 v) : ((fold v).toNat : Int) = fold v ∧ fold v ≤ 18446744073709551615 := by
  unfold fold I64 at *; split <;> omega
theorem encTo_inv (m : Nat) (M : List Int) (ps : List (Nat × Nat)) (hM : ∀ k, I64 (cl m M (pfst ps k) (psnd ps k))) : ∀ k : Nat, (k : Int) ≤ 1000000 →
    (encTo m M ps k).nxt ≤ k ∧ (encTo m M ps k).cnt ≤ k ∧ (encTo m M ps k).l.length = 2 * (encTo m M ps k).cnt ∧ ∀ x ∈ (encTo m M ps k).l, (x : Int) ≤ 18446744073709551615 := by
  intro k
  induction k with
  | zero => intro _; simp [encTo]
  | succ k ih =>
    intro hk
    obtain ⟨h1, h2, h3, h4⟩ := ih (by omega)
    rw [encTo_succ]
    unfold encStep
    split
    · exact ⟨by omega, by omega, h3, h4⟩
    · refine ⟨Nat.le_refl _, by simp only; omega, by simp only [List.length_append, List.length_cons, List.length_nil, h3]; omega, fun x hx => ?_⟩
      simp only [List.mem_append, List.mem_cons, List.not_mem_nil, or_false] at hx
      rcases hx with hx | rfl | rfl
      · exact h4 x hx
      · omega
      · have := fold_u64 (hM k)
        omega
/-- How many cells of some pairs are not Inf. -/
def fin2 (m : Nat) (M : List Int) (p : Nat × Nat) : Bool := decide (cl m M p.1 p.2 ≠ 9223372036854775807)
theorem encTo_cnt (m : Nat) (M : List Int) (ps : List (Nat × Nat)) : ∀ k, k ≤ ps.length → (encTo m M ps k).cnt = ((ps.take k).filter (fin2 m M)).length
  | 0, _ => by simp [encTo]
  | k + 1, hk => by
    have hlt : k < ps.length := by omega
    have e : ps.take (k + 1) = ps.take k ++ [(pfst ps k, psnd ps k)] := by
      rw [List.take_succ_eq_append_getElem hlt]
      unfold pfst psnd
      rw [List.getD_eq_getElem?_getD, List.getElem?_eq_getElem hlt]
      rfl
    rw [encTo_succ, e, List.filter_append, List.length_append, ← encTo_cnt m M ps k (by omega)]
    unfold encStep
    by_cases h : cl m M (pfst ps k) (psnd ps k) = 9223372036854775807
    · rw [if_pos h]; simp [fin2, h]
    · rw [if_neg h]; simp [fin2, h]
/-- The numbers of all cells. -/
def encAll (n : Nat) (M : List Int) : ES := encTo (2 * n) M (pairs n) (pairs n).length
/-- An octagon's bytes. -/
def octB (n : Nat) (E : Bool) (M : List Int) : List Int := if E = true then [0] else [1] ++ put (encAll n M).cnt ++ putAll (encAll n M).l
theorem putAll_app : ∀ xs ys : List Nat, putAll (xs ++ ys) = putAll xs ++ putAll ys
  | [], ys => rfl
  | x :: xs, ys => by
    show put x ++ putAll (xs ++ ys) = (put x ++ putAll xs) ++ putAll ys
    rw [putAll_app xs ys, List.append_assoc]
theorem putAll_two (a b : Nat) : putAll [a, b] = put a ++ put b := by simp [putAll]
end Gn
end Go.Proofs.Ytkgddgckilledaa
