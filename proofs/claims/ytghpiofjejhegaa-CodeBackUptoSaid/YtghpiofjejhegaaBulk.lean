/- What the bound of an Upto statement gives: each argument's length is at most 1048576. -/
import Derived.Test.YtghpiofjejhegaaRows
import Derived.Test.YtghpiofjejhegaaLift
namespace Go.Proofs.Ytghpiofjejhegaa.bulks
theorem one_le {H : Type} (d : DataW H) : 1 ≤ Rows.uptoBulk d := by
  cases d with
  | lit l => cases l <;> simp [Rows.uptoBulk]
  | nil => simp [Rows.uptoBulk]
  | ptr d => simp [Rows.uptoBulk]
  | slice elems spare => simp [Rows.uptoBulk]
  | agg parts => simp [Rows.uptoBulk]
  | iface t d => simp [Rows.uptoBulk]
  | map entries => simp [Rows.uptoBulk]
  | held h => simp [Rows.uptoBulk]
theorem part_le {H : Type} {d : DataW H} {l : List (DataW H)} (h : d ∈ l) : Rows.uptoBulk d ≤ Rows.uptoBulkAll l := by
  induction l with
  | nil => cases h
  | cons x r ih =>
    simp only [Rows.uptoBulkAll]
    cases List.mem_cons.1 h with
    | inl e => subst e; omega
    | inr e => have := ih e; omega
theorem length_le {H : Type} (l : List (DataW H)) : l.length ≤ Rows.uptoBulkAll l := by
  induction l with
  | nil => simp [Rows.uptoBulkAll]
  | cons x r ih => have := one_le x; simp only [Rows.uptoBulkAll, List.length_cons]; omega
theorem slice_le {H : Type} (elems spare : List (DataW H)) : elems.length ≤ Rows.uptoBulk (.slice elems spare) := by
  have h1 := length_le elems
  simp only [Rows.uptoBulk]
  omega
theorem row_le {H : Type} {d : DataW H} {k : IntKind} {xs : List Int} (h : (d = .nil ∧ xs = []) ∨ ∃ rest, d = .slice (Go.ChangeShapes.lits k xs) rest) : xs.length ≤ Rows.uptoBulk d := by
  rcases h with ⟨_, rfl⟩ | ⟨rest, rfl⟩
  · simp
  · have := slice_le (H := H) (Go.ChangeShapes.lits k xs) rest
    simpa [Go.ChangeShapes.lits] using this
theorem bound {H : Type} {l : List (DataW H)} (hk : Rows.uptoSmall H l = true) : Rows.uptoBulkAll l ≤ 1048576 :=
  of_decide_eq_true hk
theorem row_bound {H : Type} {l : List (DataW H)} (hk : Rows.uptoSmall H l = true) {d : DataW H} {k : IntKind} {xs : List Int} (hm : d ∈ l)
    (h : (d = .nil ∧ xs = []) ∨ ∃ rest, d = .slice (Go.ChangeShapes.lits k xs) rest) : xs.length ≤ 1048576 :=
  Nat.le_trans (row_le h) (Nat.le_trans (part_le hm) (bound hk))
end Go.Proofs.Ytghpiofjejhegaa.bulks
