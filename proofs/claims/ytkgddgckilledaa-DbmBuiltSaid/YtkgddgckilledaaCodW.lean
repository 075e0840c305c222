/- Walks: Put and Take of the packages code and gnomonref18. -/
import Derived.Test.YtkgddgckilledaaNumW
import Derived.Test.YtkgddgckilledaaCodB
namespace Go.Proofs.Ytkgddgckilledaa
open Go.RowKit
open Gn
theorem ret_slice {A : Option Addr} {m n c : Nat} (h : m = n) : Ending.returned (.slice A m c) = .returned (.slice A n c) := by rw [h]
theorem val_slice {A : Option Addr} {m n c : Nat} (h : m = n) : Value.slice A m c = .slice A n c := by rw [h]
theorem ret3_int {k l m : IntKind} {x y z x' y' z' : Int} {w : World} (h1 : x = x') (h2 : y = y') (h3 : z = z') : (Ending.returned (.tuple #[.int k x, .int l y, .int m z]) = .returned (.tuple #[.int k x', .int l y', .int m z'])) ∧ w = w := by subst h1 h2 h3; exact ⟨rfl, rfl⟩
theorem tk_nil (i acc : Nat) : tk i acc [] = (0, 0, 180) := rfl
theorem tk_long {i acc : Nat} {x : Int} {r : List Int} (h : (i = 9 ∧ 1 < x) ∨ (0 < i ∧ x = 0)) : tk i acc (x :: r) = (0, 0, 181) := by rw [tk, if_pos h]
theorem tk_stop {i acc : Nat} {x : Int} {r : List Int} (h : ¬ ((i = 9 ∧ 1 < x) ∨ (0 < i ∧ x = 0))) (h1 : x < 128) : tk i acc (x :: r) = (acc + x.toNat % 128 * 128 ^ i, i + 1, 0) := by rw [tk, if_neg h, if_pos h1]
theorem tk_go {i acc : Nat} {x : Int} {r : List Int} (h : ¬ ((i = 9 ∧ 1 < x) ∨ (0 < i ∧ x = 0))) (h1 : ¬ x < 128) : tk i acc (x :: r) = tk (i + 1) (acc + x.toNat % 128 * 128 ^ i) r := by rw [tk, if_neg h, if_neg h1]
end Go.Proofs.Ytkgddgckilledaa
